/-
  Part 5 of the proof (SY6, SY7, SLK, SY8, SY9, SYA, SE2, SE3, SE4, MkB, MkC): what later parts use. No conditions.
-/
import Derived.Laws.AppendOwn
import Derived.WalkKit
import Derived.Deep.LoopGhost
import Derived.Lib.Walk
import Derived.Lib.SliceRun
import Derived.Shelf.RegionOpenPlain
import Derived.Test.YtihpjcmloecaaaaGreatMW4
/-
  Symmetry: the images of a class's options.
-/
namespace Go.Proofs.YtihpjcmloecaaaaGreat.Cw
open Go Go.Cw Go.Proofs
set_option linter.unusedVariables false
set_option maxRecDepth 100000
set_option maxHeartbeats 8000000
theorem lists_eq {α : Type} {a b : List α} (hl : a.length = b.length) (h : ∀ j, j < a.length → ∀ x y, a[j]? = some x → b[j]? = some y → x = y) : a = b := by
  apply List.ext_getElem hl
  intro j h1 h2
  exact h j h1 _ _ (List.getElem?_eq_getElem h1) (List.getElem?_eq_getElem h2)
theorem charge_eq {x y : Charge} (h1 : x.rule = y.rule) (h2 : x.cost = y.cost) : x = y := by
  obtain ⟨a, b⟩ := x
  obtain ⟨c, d⟩ := y
  simp only at h1 h2
  subst h1; subst h2; rfl
theorem c_eqCh (a b : List Charge) (ha : a.length ≤ 2199023255552) (hb : b.length ≤ 2199023255552) : PCall Tryz.prog 112 [.pv (.sl 2 (a.map Charge.row)), .pv (.sl 2 (b.map Charge.row))] (fun r => r = vbool (pB (a = b))) := by
  refine acall_of tok mixed 26 rfl (fn := Tryz.f112) (c := Tryz.f112.body.getD .skip) (by kernel_rfl) (by kernel_rfl) (by kernel_rfl) rfl 0 rfl ?_
  repeat' (first | refine o1 ?_ | refine o2 ?_ | refine k1 ?_ | refine k2 ?_ | refine k3 ?_ | refine k4 ?_ | refine k6 ?_ | refine k7 ?_ | refine And.intro ?_ ?_ | (intro h; first | exact Bool.noConfusion h | exact nz _ h | exact nl h | (simp at h; done) | (simp at h; first | (exfalso; omega) | skip) | skip) | (change retOk _ _ _ _; refine ret_pure rfl trivial ?_) | refine eqv_len_map ?_ | fail)
  · exact congrArg vbool (pB_f fun e => by subst e; simp_all).symm
  · have hl : a.length = b.length := by omega
    refine loop_at (fun i : Nat => [(13, vint .i64 i)]) (fun _ => []) (fun i => i ≤ a.length ∧ ∀ j, j < i → ∀ x y, a[j]? = some x → b[j]? = some y → x = y) (fun i => a.length - i) 0 ⟨Nat.zero_le _, fun j hj => by omega⟩ (by repeat' (first | exact trivial | exact ⟨_, rfl, ALe.refl⟩ | refine And.intro ?_ ?_)) (by repeat' (first | exact trivial)) ?_
    intro i ⟨hi, hall⟩
    rcases Nat.lt_or_ge i a.length with hlt | hge
    · obtain ⟨x, hx⟩ := getE hlt
      obtain ⟨y, hy⟩ := getE (show i < b.length by omega)
      repeat' (first | refine o1 ?_ | refine o2 ?_ | refine k1 ?_ | refine k2 ?_ | refine k3 ?_ | refine k4 ?_ | refine k6 ?_ | refine k7 ?_ | refine And.intro ?_ ?_ | refine o3 ?_ | refine o4 ?_ | (intro h; first | exact Bool.noConfusion h | exact nz _ h | exact nl h | (simp at h; done) | (simp at h; first | (exfalso; omega) | skip) | skip) | (change retOk _ _ _ _; refine ret_pure rfl trivial ?_) | exact (by kernel_rfl : drawOk _ _ = true) | refine eqv_wrap (by omega) (by omega) ?_ | refine ⟨_, _, (by first | rfl | assumption), at_map (by assumption), ?_⟩ | fail)
      · exact congrArg vbool (pB_f fun e => by
          subst e
          rw [hx] at hy; injection hy with hy; subst hy
          rename_i h
          rcases h with h | h <;> exact h rfl).symm
      · rename_i h
        exact ⟨i + 1, ⟨by omega, all_lt_succ hall fun x' y' q1 q2 => by rw [hx] at q1; cases q1; rw [hy] at q2; cases q2; exact charge_eq h.1 h.2⟩, by omega, back [] rfl rfl trivial (by repeat' (first | exact trivial | exact rfl | refine And.intro ?_ ?_))⟩
    · repeat' (first | refine o1 ?_ | refine o2 ?_ | refine k1 ?_ | refine k2 ?_ | refine k3 ?_ | refine k7 ?_ | refine k8 ?_ | refine And.intro ?_ ?_ | (intro h; first | exact Bool.noConfusion h | exact nz _ h | exact nl h | (simp at h; done) | (simp at h; first | (exfalso; omega) | skip) | skip) | (change retOk _ _ _ _; refine ret_pure rfl trivial ?_) | fail)
      exact congrArg vbool (pB_t (lists_eq hl fun j hj => hall j (by omega))).symm
theorem call_image {l : List Opt} {i : Nat} {r : Int} {E : List Ent} {H : Heap} {K : AV → Heap → Prop} (k : Nat) (hE : E = grpE l l.length) (hH : H[k]? = some (mapP 85 E)) (hl : l.length ≤ 1000) (hi : i < l.length) (hK : K (imgA (imgO l i r)) H) :
    vcFun Tryz.prog 46 [.mp k, .pv (.sl 6 (l.map Opt.row)), vint .i64 i, vint .i64 r] H K := by
  subst hE
  refine call_one (i := k) (o := ⟨85, 1, false, .mp (.arr 5) .i64 (entsP 0 (grpE l l.length)) (grpE l l.length).length⟩) hH (fun d rn => ren_mp entsP_pure) [.mp 0, .pv (.sl 6 (l.map Opt.row)), vint .i64 i, vint .i64 r] rfl (c_image l i r hl hi) ?_
  rintro a H' ⟨rfl, rfl⟩
  refine ⟨_, rfl, fun _ _ => ren_mp entsP_pure, fun _ _ => ?_, ?_⟩
  · cases imgO l i r <;> rfl
  · have hs : H.set k (mapP 85 (grpE l l.length)) = H := by
      apply List.ext_getElem?
      intro j
      rw [List.getElem?_set]
      split
      · rename_i e; subst e
        rw [if_pos (List.getElem?_eq_some_iff.1 hH).1, hH]
      · rfl
    show K _ (H.set k (mapP 85 (grpE l l.length)))
    rw [hs]; exact hK
theorem call_index {l : List Opt} {H : Heap} {K : AV → Heap → Prop} (hl : l.length ≤ 1000) (hK : K (.mp H.length) (H ++ [mapP 85 (grpE l l.length)])) : vcFun Tryz.prog 45 [.pv (.sl 6 (l.map Opt.row))] H K := by
  refine call_obj [] [] [.pv (.sl 6 (l.map Opt.row))] rfl trivial rfl (c_indexOf l hl) fun r Hc' hp => ?_
  obtain ⟨rfl, rfl⟩ := hp
  refine ⟨Nat.zero_le _, ?_⟩
  simp only [List.length_cons, List.length_nil, Nat.sub_zero, List.nil_append]
  have he : renOpt 0 (tabl H.length 1) (mapP 85 (grpE l l.length)) = mapP 85 (grpE l l.length) := by
    show some (renO _ _ _) = some _
    rw [ren_mp entsP_pure]
  show K (.mp H.length) (H ++ [renOpt _ _ (mapP 85 (grpE l l.length))])
  have hr : ∀ d rn, renOpt d rn (mapP 85 (grpE l l.length)) = mapP 85 (grpE l l.length) := fun d rn => by
    show some (renO _ _ _) = some _
    rw [ren_mp entsP_pure]
  rw [hr]; exact hK
theorem kept_mp {ty d i : Nat} {H Hc : Heap} {rn l : List Nat} {E : List Ent} (h : H[i]? = some (mapP ty E)) (hk : kept H d rn l Hc) : kept H d rn (i :: l) (mapP ty E :: Hc) :=
  ⟨(by show _ = some (some (renO _ _ _)); rw [ren_mp entsP_pure]; exact h), hk⟩
theorem exch_a {r a b : Int} (h : r = a) : exch r a b = b := by unfold exch; rw [if_pos h]
theorem exch_b {r a b : Int} (h : ¬ r = a) (hb : r = b) : exch r a b = a := by unfold exch; rw [if_neg h, if_pos hb]
theorem exch_n {r a b : Int} (h : ¬ r = a) (hb : ¬ r = b) : exch r a b = r := by unfold exch; rw [if_neg h, if_neg hb]
theorem swap_of {l : List Opt} {a b r : Int} {i : Nat} {o : Opt} (h : l[i]? = some o) (he : exch o.place.room a b = r) : swapO l a b i = imgO l i r := by unfold swapO; rw [h]; dsimp only; rw [he]
theorem imgs_no {l : List Opt} {a b : Int} {i : Nat} (hi : i < l.length) (h : ¬ okO l a b i) : ¬ imgsP l a b := fun k => h (k i hi)
theorem ok_none {l : List Opt} {a b : Int} {i : Nat} (h : swapO l a b i = none) : ¬ okO l a b i := fun ⟨j, o, q, h1, _⟩ => by rw [h] at h1; cases h1
theorem ok_ne {l : List Opt} {a b : Int} {i j : Nat} {o q : Opt} (h : swapO l a b i = some j) (ho : l[i]? = some o) (hq : l[j]? = some q) (hne : ¬ o.charges = q.charges) : ¬ okO l a b i := fun ⟨j', o', q', h1, h2, h3, h4⟩ => by
  rw [h] at h1; cases h1
  rw [ho] at h2; cases h2
  rw [hq] at h3; cases h3
  exact hne h4
theorem leq_im {l : List Opt} {a b : Int} (h : ¬ imgsP l a b) : Leq (.tup [.pv (.val (.slice none 0 0)), .pv (.val (.bool false))]) (.tup [.pv (.sl 1 ((imgsV l a b).map natRow)), vbool (pB (imgsP l a b))]) := by
  unfold imgsV
  rw [if_neg (by rw [pB_f h]; simp), pB_f h]
  exact ⟨ALe.tup ⟨ALe.pv PLe.nil, ALe.refl, trivial⟩⟩
theorem c_images0 (l : List Opt) (a b : Int) (hl : l.length ≤ 1000) (hch : ∀ o ∈ l, o.charges.length ≤ 2199023255552) : PCall Tryz.prog 81 [.pv (.sl 6 (l.map Opt.row)), vint .i64 a, vint .i64 b] (fun r => Leq r (.tup [.pv (.sl 1 ((imgsV l a b).map natRow)), vbool (pB (imgsP l a b))])) := by
  refine acall_of tok mixed 69 rfl (fn := Tryz.f81) (c := Tryz.f81.body.getD .skip) (by kernel_rfl) (by kernel_rfl) (by kernel_rfl) rfl 0 rfl ?_
  repeat' (first | ((change vcFun _ _ _ _ _; refine call_index hl ?_)) | refine o1 ?_ | refine o2 ?_ | refine k1 ?_ | refine k2 ?_ | refine k4 ?_ | refine eqv_len_map ?_ | fail)
  generalize hE : grpE l l.length = E
  refine loop_for (fun i : Nat => [(0, .pv (.sl 6 (l.map Opt.row))), (1, vint .i64 a), (2, vint .i64 b), (8, .mp 0), (9, .ms 1 1 0 i), (17, .pv (.sl 6 (l.map Opt.row))), (18, vint .i64 l.length), (19, vint .i64 i)]) (fun i => [mapP 85 E, some ⟨3, 1, false, .p ((imgsL l a b i).map natRow)⟩]) (fun i => i ≤ l.length ∧ (imgsL l a b i).length = i ∧ ∀ j, j < i → okO l a b j) (fun i => l.length - i) 0 ⟨Nat.zero_le _, rfl, fun j hj => by omega⟩ ?_ ?_
  · exact back [0, 1] rfl rfl (kept_mp rfl ⟨rfl, trivial⟩) (by repeat' (first | exact trivial | exact rfl | refine And.intro ?_ ?_))
  intro i ⟨hi, hil, hall⟩
  rcases Nat.lt_or_ge i l.length with hlt | hge
  · obtain ⟨o, ho⟩ := getE hlt
    by_cases hra : o.place.room = a
    · have hsw := swap_of (a := a) (b := b) ho (exch_a hra)
      rcases hj : imgO l i b with _ | j
      · rw [hj] at hsw
        have hno := imgs_no hlt (ok_none hsw)
        repeat' (first | ((change vcFun _ _ _ _ _; refine call_image 0 hE.symm rfl hl hlt ?_; rw [hj])) | refine o1 ?_ | refine o2 ?_ | refine k1 ?_ | refine k2 ?_ | refine k3 ?_ | refine k4 ?_ | refine k6 ?_ | refine k7 ?_ | refine And.intro ?_ ?_ | refine o3 ?_ | refine o4 ?_ | (intro h; first | exact Bool.noConfusion h | exact nz _ h | exact nl h | (simp at h; done) | (simp at h; first | (exfalso; omega) | skip) | skip) | (change retOk _ _ _ _; refine ret_pure rfl trivial ?_) | exact (by kernel_rfl : drawOk _ _ = true) | refine ⟨_, _, (by first | rfl | assumption), at_map (by assumption), ?_⟩ | fail)
        all_goals first
          | (exfalso; omega)
          | exact leq_im hno
      · rw [hj] at hsw
        obtain ⟨q, hq⟩ := getE (img_lt hj)
        have heq := c_eqCh o.charges q.charges (hch o (List.mem_of_getElem? ho)) (hch q (List.mem_of_getElem? hq))
        by_cases hcc : o.charges = q.charges
        · rw [pB_t hcc] at heq
          repeat' (first | ((change vcFun _ _ _ _ _; refine call_image 0 hE.symm rfl hl hlt ?_; rw [hj])) | (refine idx_sl (k := j) (at_map hq) rfl ?_) | refine o1 ?_ | refine o2 ?_ | refine k1 ?_ | refine k2 ?_ | refine k3 ?_ | refine k4 ?_ | refine k6 ?_ | refine And.intro ?_ ?_ | refine o3 ?_ | refine o4 ?_ | (intro h; first | exact Bool.noConfusion h | exact nz _ h | exact nl h | (simp at h; done) | (simp at h; first | (exfalso; omega) | skip) | skip) | (refine (?_ : srcLen _ = rowsLen _); rfl) | exact (by kernel_rfl : drawOk _ _ = true) | refine eqv_wrap (by omega) (by omega) ?_ | refine ⟨_, _, (by first | rfl | assumption), at_map (by assumption), ?_⟩ | (refine (?_ : _ ≤ 140737488355328); simp [rowsLen] <;> omega) | (refine (?_ : _ ≤ 9223372036854775807); simp [rowsLen] <;> omega) | (refine (?_ : _ = rowsLen _); simp [rowsLen] <;> omega) | refine eqv_to _ (app_row rfl) (eqv_to _ app_len ?_) | (change vcFunD _ _ _ _ _; refine callD_eq rfl (by repeat' (first | trivial | refine And.intro ?_ ?_ | (show 0 + _ ≤ List.length _; simp))) ALeL.refl (heq) rfl ?_) | fail)
          all_goals first
            | (exfalso; omega)
            | (have hln : (imgsL l a b i ++ [j]).length = i + 1 := by rw [List.length_append, hil]; rfl
               refine ⟨i + 1, ⟨hlt, by rw [imgs_succ hsw]; exact hln, all_lt_succ hall ⟨j, o, q, hsw, ho, hq, hcc⟩⟩, by omega, ?_⟩
               rw [imgs_succ hsw, hln]
               exact back [0, 4] rfl rfl (kept_mp rfl ⟨rfl, trivial⟩) (by repeat' (first | exact trivial | exact rfl | refine And.intro ?_ ?_)))
        · rw [pB_f hcc] at heq
          have hno := imgs_no hlt (ok_ne hsw ho hq hcc)
          repeat' (first | ((change vcFun _ _ _ _ _; refine call_image 0 hE.symm rfl hl hlt ?_; rw [hj])) | (refine idx_sl (k := j) (at_map hq) rfl ?_) | refine o1 ?_ | refine o2 ?_ | refine k1 ?_ | refine k2 ?_ | refine k3 ?_ | refine k4 ?_ | refine k6 ?_ | refine k7 ?_ | refine And.intro ?_ ?_ | refine o3 ?_ | refine o4 ?_ | (intro h; first | exact Bool.noConfusion h | exact nz _ h | exact nl h | (simp at h; done) | (simp at h; first | (exfalso; omega) | skip) | skip) | (change retOk _ _ _ _; refine ret_pure rfl trivial ?_) | exact (by kernel_rfl : drawOk _ _ = true) | refine ⟨_, _, (by first | rfl | assumption), at_map (by assumption), ?_⟩ | (change vcFunD _ _ _ _ _; refine callD_eq rfl (by repeat' (first | trivial | refine And.intro ?_ ?_ | (show 0 + _ ≤ List.length _; simp))) ALeL.refl (heq) rfl ?_) | fail)
          all_goals first
            | (exfalso; omega)
            | exact leq_im hno
    · by_cases hrb : o.place.room = b
      · have hsw := swap_of (a := a) (b := b) ho (exch_b hra hrb)
        rcases hj : imgO l i a with _ | j
        · rw [hj] at hsw
          have hno := imgs_no hlt (ok_none hsw)
          repeat' (first | ((change vcFun _ _ _ _ _; refine call_image 0 hE.symm rfl hl hlt ?_; rw [hj])) | refine o1 ?_ | refine o2 ?_ | refine k1 ?_ | refine k2 ?_ | refine k3 ?_ | refine k4 ?_ | refine k6 ?_ | refine k7 ?_ | refine And.intro ?_ ?_ | refine o3 ?_ | refine o4 ?_ | (intro h; first | exact Bool.noConfusion h | exact nz _ h | exact nl h | (simp at h; done) | (simp at h; first | (exfalso; omega) | skip) | skip) | (change retOk _ _ _ _; refine ret_pure rfl trivial ?_) | exact (by kernel_rfl : drawOk _ _ = true) | refine ⟨_, _, (by first | rfl | assumption), at_map (by assumption), ?_⟩ | fail)
          all_goals first
            | (exfalso; omega)
            | exact leq_im hno
        · rw [hj] at hsw
          obtain ⟨q, hq⟩ := getE (img_lt hj)
          have heq := c_eqCh o.charges q.charges (hch o (List.mem_of_getElem? ho)) (hch q (List.mem_of_getElem? hq))
          by_cases hcc : o.charges = q.charges
          · rw [pB_t hcc] at heq
            repeat' (first | ((change vcFun _ _ _ _ _; refine call_image 0 hE.symm rfl hl hlt ?_; rw [hj])) | (refine idx_sl (k := j) (at_map hq) rfl ?_) | refine o1 ?_ | refine o2 ?_ | refine k1 ?_ | refine k2 ?_ | refine k3 ?_ | refine k4 ?_ | refine k6 ?_ | refine And.intro ?_ ?_ | refine o3 ?_ | refine o4 ?_ | (intro h; first | exact Bool.noConfusion h | exact nz _ h | exact nl h | (simp at h; done) | (simp at h; first | (exfalso; omega) | skip) | skip) | (refine (?_ : srcLen _ = rowsLen _); rfl) | exact (by kernel_rfl : drawOk _ _ = true) | refine eqv_wrap (by omega) (by omega) ?_ | refine ⟨_, _, (by first | rfl | assumption), at_map (by assumption), ?_⟩ | (refine (?_ : _ ≤ 140737488355328); simp [rowsLen] <;> omega) | (refine (?_ : _ ≤ 9223372036854775807); simp [rowsLen] <;> omega) | (refine (?_ : _ = rowsLen _); simp [rowsLen] <;> omega) | refine eqv_to _ (app_row rfl) (eqv_to _ app_len ?_) | (change vcFunD _ _ _ _ _; refine callD_eq rfl (by repeat' (first | trivial | refine And.intro ?_ ?_ | (show 0 + _ ≤ List.length _; simp))) ALeL.refl (heq) rfl ?_) | fail)
            all_goals first
              | (exfalso; omega)
              | (have hln : (imgsL l a b i ++ [j]).length = i + 1 := by rw [List.length_append, hil]; rfl
                 refine ⟨i + 1, ⟨hlt, by rw [imgs_succ hsw]; exact hln, all_lt_succ hall ⟨j, o, q, hsw, ho, hq, hcc⟩⟩, by omega, ?_⟩
                 rw [imgs_succ hsw, hln]
                 exact back [0, 4] rfl rfl (kept_mp rfl ⟨rfl, trivial⟩) (by repeat' (first | exact trivial | exact rfl | refine And.intro ?_ ?_)))
          · rw [pB_f hcc] at heq
            have hno := imgs_no hlt (ok_ne hsw ho hq hcc)
            repeat' (first | ((change vcFun _ _ _ _ _; refine call_image 0 hE.symm rfl hl hlt ?_; rw [hj])) | (refine idx_sl (k := j) (at_map hq) rfl ?_) | refine o1 ?_ | refine o2 ?_ | refine k1 ?_ | refine k2 ?_ | refine k3 ?_ | refine k4 ?_ | refine k6 ?_ | refine k7 ?_ | refine And.intro ?_ ?_ | refine o3 ?_ | refine o4 ?_ | (intro h; first | exact Bool.noConfusion h | exact nz _ h | exact nl h | (simp at h; done) | (simp at h; first | (exfalso; omega) | skip) | skip) | (change retOk _ _ _ _; refine ret_pure rfl trivial ?_) | exact (by kernel_rfl : drawOk _ _ = true) | refine ⟨_, _, (by first | rfl | assumption), at_map (by assumption), ?_⟩ | (change vcFunD _ _ _ _ _; refine callD_eq rfl (by repeat' (first | trivial | refine And.intro ?_ ?_ | (show 0 + _ ≤ List.length _; simp))) ALeL.refl (heq) rfl ?_) | fail)
            all_goals first
              | (exfalso; omega)
              | exact leq_im hno
      · have hsw := swap_of (a := a) (b := b) ho (exch_n hra hrb)
        rw [img_self ho] at hsw
        have heq := c_eqCh o.charges o.charges (hch o (List.mem_of_getElem? ho)) (hch o (List.mem_of_getElem? ho))
        rw [pB_t rfl] at heq
        repeat' (first | (refine idx_sl (k := i) (at_map ho) rfl ?_) | refine o1 ?_ | refine o2 ?_ | refine k1 ?_ | refine k2 ?_ | refine k3 ?_ | refine k4 ?_ | refine k6 ?_ | refine And.intro ?_ ?_ | refine o3 ?_ | refine o4 ?_ | (intro h; first | exact Bool.noConfusion h | exact nz _ h | exact nl h | (simp at h; done) | (simp at h; first | (exfalso; omega) | skip) | skip) | (refine (?_ : srcLen _ = rowsLen _); rfl) | exact (by kernel_rfl : drawOk _ _ = true) | refine eqv_wrap (by omega) (by omega) ?_ | (refine (?_ : _ ≤ 140737488355328); simp [rowsLen] <;> omega) | (refine (?_ : _ ≤ 9223372036854775807); simp [rowsLen] <;> omega) | (refine (?_ : _ = rowsLen _); simp [rowsLen] <;> omega) | refine eqv_to _ (app_row rfl) (eqv_to _ app_len ?_) | (change vcFunD _ _ _ _ _; refine callD_eq rfl (by repeat' (first | trivial | refine And.intro ?_ ?_ | (show 0 + _ ≤ List.length _; simp))) ALeL.refl (heq) rfl ?_) | fail)
        all_goals first
          | (exfalso; omega)
          | (have hln : (imgsL l a b i ++ [i]).length = i + 1 := by rw [List.length_append, hil]; rfl
             refine ⟨i + 1, ⟨hlt, by rw [imgs_succ hsw]; exact hln, all_lt_succ hall ⟨i, o, o, hsw, ho, ho, rfl⟩⟩, by omega, ?_⟩
             rw [imgs_succ hsw, hln]
             exact back [0, 4] rfl rfl (kept_mp rfl ⟨rfl, trivial⟩) (by repeat' (first | exact trivial | exact rfl | refine And.intro ?_ ?_)))
  · obtain rfl : i = l.length := by omega
    have hok : imgsP l a b := hall
    unfold imgsV
    rw [if_pos (pB_t hok), pB_t hok]
    repeat' (first | refine o1 ?_ | refine o2 ?_ | refine k1 ?_ | refine k2 ?_ | refine k3 ?_ | refine k7 ?_ | refine k8 ?_ | refine And.intro ?_ ?_ | (intro h; first | exact Bool.noConfusion h | exact nz _ h | exact nl h | (simp at h; done) | (simp at h; first | (exfalso; omega) | skip) | skip) | fail)
    change retOk _ _ _ _
    refine ret_pure (r0 := .tup [.pv (.sl 1 ((((imgsL l a b l.length).map natRow).drop 0).take l.length)), vbool true]) rfl ?_ ?_
    · refine ⟨?_, trivial⟩
      show 0 + l.length ≤ _
      rw [List.length_map, hil]; omega
    · rw [List.drop_zero, List.take_of_length_le (by rw [List.length_map, hil]; exact Nat.le_refl _)]
      exact ⟨ALe.refl⟩
theorem c_images (l : List Opt) (a b : Int) (hl : l.length ≤ 1000) (hch : ∀ o ∈ l, o.charges.length ≤ 2199023255552) : PCall Tryz.prog 81 [.pv (.sl 6 (l.map Opt.row)), vint .i64 a, vint .i64 b] (fun r => r = .tup [.pv (.sl 1 ((imgsV l a b).map natRow)), vbool (pB (imgsP l a b))]) := (c_images0 l a b hl hch).weak fun r k => ⟨_, k.le, rfl⟩
end Go.Proofs.YtihpjcmloecaaaaGreat.Cw
/-
  Symmetry: entries of pairs; the orders of loads and counts.
-/
namespace Go.Proofs.YtihpjcmloecaaaaGreat.Cw
open Go Go.Cw Go.Proofs
set_option linter.unusedVariables false
set_option maxRecDepth 100000
set_option maxHeartbeats 8000000
def entZ (m : Model) (p : Pair) (a b : Nat) : Int := (p.table[a * ((m.classes[p.second.toNat]?).getD []).length + b]?).getD 0
theorem entZ_at {m : Model} {p : Pair} {a b : Nat} {x y : List Opt} (hx : m.classes[p.first.toNat]? = some x) (hy : m.classes[p.second.toNat]? = some y) (hp : pairP m p) (ha : a < x.length) (hb : b < y.length) : p.table[a * y.length + b]? = some (entZ m p a b) := by
  obtain ⟨-, -, -, ⟨x', y', h1, h2, h3⟩, -⟩ := hp
  rw [hx] at h1; cases h1
  rw [hy] at h2; cases h2
  have hlt : a * y.length + b < p.table.length := by
    have : (a + 1) * y.length ≤ x.length * y.length := Nat.mul_le_mul_right _ ha
    rw [Nat.add_mul] at this
    omega
  unfold entZ
  rw [hy, List.getElem?_eq_getElem hlt]
  show _ = some ((p.table[a * y.length + b]?).getD 0)
  rw [List.getElem?_eq_getElem hlt]; rfl
theorem c_pentry (m : Model) (p : Pair) (a b : Nat) (l : List Opt) (v : Int) (h1 : 0 ≤ p.second) (hl : m.classes[p.second.toNat]? = some l) (ha : a ≤ 100) (hb : b ≤ 100) (hn : l.length ≤ 100) (hv : p.table[a * l.length + b]? = some v) :
    PCall Tryz.prog 82 [ag m.cells, ag p.row, vint .i64 a, vint .i64 b] (fun r => r = vint .i64 v) := by
  refine acall_of tok mixed 24 rfl (fn := Tryz.f82) (c := Tryz.f82.body.getD .skip) (by kernel_rfl) (by kernel_rfl) (by kernel_rfl) rfl 0 rfl ?_
  have hab : a * l.length ≤ 100 * 100 := Nat.mul_le_mul ha hn
  repeat' (first | (refine idx_sl (k := p.second.toNat) (at_map hl) (by omega) ?_) | (refine eqv_mul (by omega) (by omega) (fun _ _ => ?_)) | (refine idx_sl (k := a * l.length + b) (at_map hv) (by simp) ?_) | refine o1 ?_ | refine o2 ?_ | refine k1 ?_ | refine k2 ?_ | refine k7 ?_ | refine And.intro ?_ ?_ | refine o3 ?_ | refine o4 ?_ | (change retOk _ _ _ _; refine ret_pure rfl trivial ?_) | exact (by kernel_rfl : drawOk _ _ = true) | refine eqv_len_map ?_ | refine eqv_wrap (by omega) (by omega) ?_ | fail)
  all_goals first
    | rfl
theorem c_rentry (m : Model) (p : Pair) (a b : Nat) (l : List Opt) (v : Int) (h1 : 0 ≤ p.second) (hl : m.classes[p.second.toNat]? = some l) (ha : a ≤ 100) (hb : b ≤ 100) (hn : l.length ≤ 100) (hv : p.table[a * l.length + b]? = some v) :
    PCall Tryz.prog 39 [ag m.cells, ag p.row, vint .i64 a, vint .i64 b] (fun r => r = vint .i64 v) := by
  refine acall_of tok mixed 24 rfl (fn := Tryz.f39) (c := Tryz.f39.body.getD .skip) (by kernel_rfl) (by kernel_rfl) (by kernel_rfl) rfl 0 rfl ?_
  have hab : a * l.length ≤ 100 * 100 := Nat.mul_le_mul ha hn
  repeat' (first | (refine idx_sl (k := p.second.toNat) (at_map hl) (by omega) ?_) | (refine eqv_mul (by omega) (by omega) (fun _ _ => ?_)) | (refine idx_sl (k := a * l.length + b) (at_map hv) (by simp) ?_) | refine o1 ?_ | refine o2 ?_ | refine k1 ?_ | refine k2 ?_ | refine k7 ?_ | refine And.intro ?_ ?_ | refine o3 ?_ | refine o4 ?_ | (change retOk _ _ _ _; refine ret_pure rfl trivial ?_) | exact (by kernel_rfl : drawOk _ _ = true) | refine eqv_len_map ?_ | refine eqv_wrap (by omega) (by omega) ?_ | fail)
  all_goals first
    | rfl
def ldC (x y : Load) : Int := orI [cmpI x.cls y.cls, cmpI x.opt y.opt, cmpI x.weight y.weight]
def lexL : List Load → List Load → Int
  | [], [] => 0
  | [], _ :: _ => -1
  | _ :: _, [] => 1
  | x :: a, y :: b => if ldC x y ≠ 0 then ldC x y else lexL a b
def ctC (x y : Count) : Int := orI [cmpI x.rule y.rule, cmpI x.most y.most, cmpI x.penalty y.penalty, lexL x.loads y.loads]
theorem drop_at {α : Type} {l : List α} {i : Nat} {x : α} (h : l[i]? = some x) : l.drop i = x :: l.drop (i + 1) := by
  obtain ⟨hi, rfl⟩ := List.getElem?_eq_some_iff.1 h
  exact List.drop_eq_getElem_cons hi
theorem lex_at {a b : List Load} {i : Nat} {x y : Load} (hx : a[i]? = some x) (hy : b[i]? = some y) : lexL (a.drop i) (b.drop i) = if ldC x y ≠ 0 then ldC x y else lexL (a.drop (i + 1)) (b.drop (i + 1)) := by
  rw [drop_at hx, drop_at hy]; rfl
theorem lex_end1 {a b : List Load} {i : Nat} {x : Load} (hx : a[i]? = some x) (hb : b.length ≤ i) : lexL (a.drop i) (b.drop i) = 1 := by
  rw [drop_at hx, List.drop_eq_nil_of_le hb]; rfl
theorem lex_end2 {a b : List Load} {i : Nat} (ha : a.length ≤ i) (hb : i < b.length) : lexL (a.drop i) (b.drop i) = -1 := by
  obtain ⟨y, hy⟩ := getE hb
  rw [drop_at hy, List.drop_eq_nil_of_le ha]; rfl
theorem lex_end3 {a b : List Load} {i : Nat} (ha : a.length ≤ i) (hb : b.length ≤ i) : lexL (a.drop i) (b.drop i) = 0 := by
  rw [List.drop_eq_nil_of_le ha, List.drop_eq_nil_of_le hb]; rfl
theorem ld_eq {x y : Load} (h1 : x.cls = y.cls) (h2 : x.opt = y.opt) (h3 : x.weight = y.weight) : x = y := by
  obtain ⟨a, b, c⟩ := x
  obtain ⟨d, e, f⟩ := y
  simp only at h1 h2 h3
  subst h1; subst h2; subst h3; rfl
theorem ld_zero {x y : Load} : ldC x y = 0 ↔ x = y := by
  constructor
  · intro h
    have h : x.cls = y.cls ∧ x.opt = y.opt ∧ x.weight = y.weight := by
      simp only [ldC, orI, cmpI] at h
      grind
    exact ld_eq h.1 h.2.1 h.2.2
  · rintro rfl
    simp only [ldC, orI, cmpI]
    grind
theorem lex_zero : ∀ {a b : List Load}, lexL a b = 0 ↔ a = b
  | [], [] => by simp [lexL]
  | [], _ :: _ => by simp [lexL]
  | _ :: _, [] => by simp [lexL]
  | x :: a, y :: b => by
    have ih := lex_zero (a := a) (b := b)
    unfold lexL
    by_cases h : ldC x y = 0
    · rw [if_neg (by simp [h]), ih]
      have := ld_zero.1 h
      subst this; simp
    · rw [if_pos h]
      refine ⟨fun k => absurd k h, fun k => ?_⟩
      injection k with k1 k2
      exact absurd (ld_zero.2 k1) h
theorem ct_zero {x y : Count} : ctC x y = 0 ↔ x = y := by
  constructor
  · intro h
    have h : x.rule = y.rule ∧ x.most = y.most ∧ x.penalty = y.penalty ∧ lexL x.loads y.loads = 0 := by
      simp only [ctC] at h
      generalize lexL x.loads y.loads = z at *
      simp only [orI, cmpI] at h
      grind
    obtain ⟨h1, h2, h3, h4⟩ := h
    have h5 : x.loads = y.loads := lex_zero.1 h4
    clear h4
    obtain ⟨a, b, c, d⟩ := x
    obtain ⟨a', b', c', d'⟩ := y
    simp only at h1 h2 h3 h5
    subst h1; subst h2; subst h3; subst h5; rfl
  · rintro rfl
    have := lex_zero.2 (rfl : x.loads = x.loads)
    simp only [ctC]
    rw [this]
    simp only [orI, cmpI]
    grind
theorem c_loads (x y : Load) : PCall Tryz.prog 115 [ag x.row, ag y.row] (fun r => r = vint .i64 (ldC x y)) := by
  refine acall_of tok mixed 22 rfl (fn := Tryz.f115) (c := Tryz.f115.body.getD .skip) (by kernel_rfl) (by kernel_rfl) (by kernel_rfl) rfl 0 rfl ?_
  repeat' (first | refine o1 ?_ | refine o2 ?_ | refine k1 ?_ | refine k2 ?_ | refine k7 ?_ | refine And.intro ?_ ?_ | refine o3 ?_ | refine o4 ?_ | (change retOk _ _ _ _; refine ret_pure rfl trivial ?_) | exact (by kernel_rfl : drawOk _ _ = true) | (change vcFunD _ _ _ _ _; refine callD_eq rfl (by repeat' (first | trivial | refine And.intro ?_ ?_ | (show 0 + _ ≤ List.length _; simp))) ALeL.refl (c_cmp _ _) rfl ?_) | (change vcFunD _ _ _ _ _; refine callD_eq rfl (by repeat' (first | trivial | refine And.intro ?_ ?_ | (show 0 + _ ≤ List.length _; simp))) ALeL.refl (c_or [cmpI x.cls y.cls, cmpI x.opt y.opt, cmpI x.weight y.weight] (Nat.le_of_ble_eq_true rfl)) rfl ?_) | fail)
  all_goals exact rfl
theorem c_compareL (a b : List Load) (ha : a.length ≤ 100000) (hb : b.length ≤ 100000) : PCall Tryz.prog 117 [.pv (.sl 3 (a.map Load.row)), .pv (.sl 3 (b.map Load.row)), .pv (.fn 115 [])] (fun r => r = vint .i64 (lexL a b)) := by
  refine acall_of tok mixed 39 rfl (fn := Tryz.f117) (c := Tryz.f117.body.getD .skip) (by kernel_rfl) (by kernel_rfl) (by kernel_rfl) rfl 0 rfl ?_
  repeat' (first | refine o1 ?_ | refine o2 ?_ | refine k1 ?_ | refine k2 ?_ | refine k4 ?_ | refine eqv_len_map ?_ | fail)
  refine loop_at (fun i : Nat => [(13, vint .i64 i)]) (fun _ => []) (fun i => i ≤ a.length ∧ lexL (a.drop i) (b.drop i) = lexL a b) (fun i => a.length - i) 0 ⟨Nat.zero_le _, rfl⟩ (by repeat' (first | exact trivial | exact ⟨_, rfl, ALe.refl⟩ | refine And.intro ?_ ?_)) (by repeat' (first | exact trivial)) ?_
  intro i ⟨hi, hlx⟩
  rw [← hlx]
  rcases Nat.lt_or_ge i a.length with hlt | hge
  · obtain ⟨x, hx⟩ := getE hlt
    rcases Nat.lt_or_ge i b.length with hlb | hgb
    · obtain ⟨y, hy⟩ := getE hlb
      have hc := c_loads x y
      have hl := lex_at hx hy
      generalize ldC x y = z at *
      repeat' (first | refine o1 ?_ | refine o2 ?_ | refine k1 ?_ | refine k2 ?_ | refine k3 ?_ | refine k4 ?_ | refine k6 ?_ | refine k7 ?_ | refine And.intro ?_ ?_ | (intro h; first | exact Bool.noConfusion h | exact nz _ h | exact nl h | (simp at h; done) | (simp at h; first | (exfalso; omega) | skip) | skip) | (change retOk _ _ _ _; refine ret_pure rfl trivial ?_) | exact (by kernel_rfl : drawOk _ _ = true) | refine eqv_len_map ?_ | refine eqv_wrap (by omega) (by omega) ?_ | refine ⟨_, _, (by first | rfl | assumption), at_map (by assumption), ?_⟩ | (change vcFun _ _ (_ ++ pvs _) _ _; refine call_cap rfl (by repeat' (first | trivial | refine And.intro ?_ ?_ | (show 0 + _ ≤ List.length _; simp))) (hc) rfl ?_) | fail)
      all_goals first
        | (rw [hl, if_pos (by assumption)]; rfl)
        | exact ⟨i + 1, ⟨by omega, by rw [hl, if_neg (by omega)]⟩, by omega, back [] rfl rfl trivial (by repeat' (first | exact trivial | exact rfl | refine And.intro ?_ ?_))⟩
    · have hl := lex_end1 hx hgb
      repeat' (first | refine o1 ?_ | refine o2 ?_ | refine k1 ?_ | refine k2 ?_ | refine k3 ?_ | refine k4 ?_ | refine k6 ?_ | refine k7 ?_ | refine And.intro ?_ ?_ | (intro h; first | exact Bool.noConfusion h | exact nz _ h | exact nl h | (simp at h; done) | (simp at h; first | (exfalso; omega) | skip) | skip) | (change retOk _ _ _ _; refine ret_pure rfl trivial ?_) | exact (by kernel_rfl : drawOk _ _ = true) | refine eqv_len_map ?_ | refine ⟨_, _, (by first | rfl | assumption), at_map (by assumption), ?_⟩ | fail)
      all_goals first
        | (rw [hl]; rfl)
  · obtain rfl : i = a.length := by omega
    rcases Nat.lt_or_ge a.length b.length with hlb | hgb
    · have hl := lex_end2 (Nat.le_refl _) hlb
      repeat' (first | refine o1 ?_ | refine o2 ?_ | refine k1 ?_ | refine k2 ?_ | refine k3 ?_ | refine k7 ?_ | refine k8 ?_ | refine And.intro ?_ ?_ | (intro h; first | exact Bool.noConfusion h | exact nz _ h | exact nl h | (simp at h; done) | (simp at h; first | (exfalso; omega) | skip) | skip) | (change retOk _ _ _ _; refine ret_pure rfl trivial ?_) | refine eqv_len_map ?_ | fail)
      all_goals first
        | (exfalso; omega)
        | (rw [hl]; rfl)
    · have hl := lex_end3 (Nat.le_refl _) hgb
      repeat' (first | refine o1 ?_ | refine o2 ?_ | refine k1 ?_ | refine k2 ?_ | refine k3 ?_ | refine k6 ?_ | refine k7 ?_ | refine k8 ?_ | refine And.intro ?_ ?_ | (intro h; first | exact Bool.noConfusion h | exact nz _ h | exact nl h | (simp at h; done) | (simp at h; first | (exfalso; omega) | skip) | skip) | (change retOk _ _ _ _; refine ret_pure rfl trivial ?_) | refine eqv_len_map ?_ | fail)
      all_goals first
        | (exfalso; omega)
        | (rw [hl]; rfl)
theorem c_order22 (x y : Count) (hx : x.loads.length ≤ 100000) (hy : y.loads.length ≤ 100000) : PCall Tryz.prog 88 [ag x.row, ag y.row] (fun r => r = vint .i64 (ctC x y)) := by
  refine acall_of tok mixed 27 rfl (fn := Tryz.f88) (c := Tryz.f88.body.getD .skip) (by kernel_rfl) (by kernel_rfl) (by kernel_rfl) rfl 0 rfl ?_
  repeat' (first | refine o1 ?_ | refine o2 ?_ | refine k1 ?_ | refine k2 ?_ | refine k7 ?_ | refine And.intro ?_ ?_ | refine o3 ?_ | refine o4 ?_ | (change retOk _ _ _ _; refine ret_pure rfl trivial ?_) | exact (by kernel_rfl : drawOk _ _ = true) | (change vcFunD _ _ _ _ _; refine callD_eq rfl (by repeat' (first | trivial | refine And.intro ?_ ?_ | (show 0 + _ ≤ List.length _; simp))) ALeL.refl (c_cmp _ _) rfl ?_) | (change vcFunD _ _ _ _ _; refine callD_eq rfl (by repeat' (first | trivial | refine And.intro ?_ ?_ | (show 0 + _ ≤ List.length _; simp))) ALeL.refl (c_compareL x.loads y.loads hx hy) rfl ?_) | (change vcFunD _ _ _ _ _; refine callD_eq rfl (by repeat' (first | trivial | refine And.intro ?_ ?_ | (show 0 + _ ≤ List.length _; simp))) ALeL.refl (c_or [cmpI x.rule y.rule, cmpI x.most y.most, cmpI x.penalty y.penalty, lexL x.loads y.loads] (Nat.le_of_ble_eq_true rfl)) rfl ?_) | fail)
  all_goals exact rfl
theorem c_swap3 (x y : Count) (hx : x.loads.length ≤ 100000) (hy : y.loads.length ≤ 100000) : PCall Tryz.prog 87 [ag x.row, ag y.row] (fun r => r = vbool (pB (x = y))) := by
  refine acall_of tok mixed 9 rfl (fn := Tryz.f87) (c := Tryz.f87.body.getD .skip) (by kernel_rfl) (by kernel_rfl) (by kernel_rfl) rfl 0 rfl ?_
  have hc := c_order22 x y hx hy
  have hz := ct_zero (x := x) (y := y)
  generalize ctC x y = z at *
  repeat' (first | refine o1 ?_ | refine o2 ?_ | refine k1 ?_ | refine k2 ?_ | refine k7 ?_ | (change retOk _ _ _ _; refine ret_pure rfl trivial ?_) | (change vcFun _ _ _ _ _; refine call_eq rfl (by repeat' (first | trivial | refine And.intro ?_ ?_ | (show 0 + _ ≤ List.length _; simp))) ALeL.refl (hc) rfl ?_) | fail)
  all_goals first
    | exact congrArg vbool (pB_t (hz.1 (by assumption))).symm
    | exact congrArg vbool (pB_f fun k => absurd (hz.2 k) (by assumption)).symm
    | exact congrArg vbool (pB_eq (by simp_all))
theorem c_swap1 (x : Load) : PCall Tryz.prog 84 [ag x.row] (fun r => r = vint .i64 x.opt) := by
  refine acall_of tok mixed 5 rfl (fn := Tryz.f84) (c := Tryz.f84.body.getD .skip) (by kernel_rfl) (by kernel_rfl) (by kernel_rfl) rfl 0 rfl ?_
  repeat' (first | refine o1 ?_ | refine o2 ?_ | refine k1 ?_ | refine k2 ?_ | refine k7 ?_ | (change retOk _ _ _ _; refine ret_pure rfl trivial ?_) | fail)
  all_goals exact rfl
def natsRow (l : List Nat) : List PV := [.sl 1 (l.map natRow)]
theorem c_swap2 (V : List (List Nat)) (x : Load) (v : List Nat) (j : Nat) (h1 : 0 ≤ x.cls) (h2 : 0 ≤ x.opt) (hv : V[x.cls.toNat]? = some v) (hj : v[x.opt.toNat]? = some j) : PCall Tryz.prog 85 [ag x.row, .pv (.ia [.sl 1 (V.map natsRow)])] (fun r => r = vint .i64 j) := by
  refine acall_of tok mixed 13 rfl (fn := Tryz.f85) (c := Tryz.f85.body.getD .skip) (by kernel_rfl) (by kernel_rfl) (by kernel_rfl) rfl 0 rfl ?_
  repeat' (first | (refine idx_sl (k := x.cls.toNat) (at_map hv) (by omega) ?_) | (refine idx_sl (k := x.opt.toNat) (at_map hj) (by omega) ?_) | refine o1 ?_ | refine o2 ?_ | refine k1 ?_ | refine k2 ?_ | refine k7 ?_ | refine And.intro ?_ ?_ | refine o3 ?_ | refine o4 ?_ | (change retOk _ _ _ _; refine ret_pure rfl trivial ?_) | exact (by kernel_rfl : drawOk _ _ = true) | fail)
  all_goals exact rfl
theorem c_equalC (a b : List Count) (ha : a.length ≤ 100000) (hb : b.length ≤ 100000) (hal : ∀ c ∈ a, c.loads.length ≤ 100000) (hbl : ∀ c ∈ b, c.loads.length ≤ 100000) : PCall Tryz.prog 86 [.pv (.sl 4 (a.map Count.row)), .pv (.sl 4 (b.map Count.row)), .pv (.fn 87 [])] (fun r => r = vbool (pB (a = b))) := by
  refine acall_of tok mixed 32 rfl (fn := Tryz.f86) (c := Tryz.f86.body.getD .skip) (by kernel_rfl) (by kernel_rfl) (by kernel_rfl) rfl 0 rfl ?_
  repeat' (first | refine o1 ?_ | refine o2 ?_ | refine k1 ?_ | refine k2 ?_ | refine k3 ?_ | refine k4 ?_ | refine k6 ?_ | refine k7 ?_ | refine And.intro ?_ ?_ | (intro h; first | exact Bool.noConfusion h | exact nz _ h | exact nl h | (simp at h; done) | (simp at h; first | (exfalso; omega) | skip) | skip) | (change retOk _ _ _ _; refine ret_pure rfl trivial ?_) | refine eqv_len_map ?_ | fail)
  · exact congrArg vbool (pB_f fun e => by subst e; simp_all).symm
  · have hl : a.length = b.length := by omega
    refine loop_at (fun i : Nat => [(17, vint .i64 i)]) (fun _ => []) (fun i => i ≤ a.length ∧ ∀ j, j < i → ∀ x y, a[j]? = some x → b[j]? = some y → x = y) (fun i => a.length - i) 0 ⟨Nat.zero_le _, fun j hj => by omega⟩ (by repeat' (first | exact trivial | exact ⟨_, rfl, ALe.refl⟩ | refine And.intro ?_ ?_)) (by repeat' (first | exact trivial)) ?_
    intro i ⟨hi, hall⟩
    rcases Nat.lt_or_ge i a.length with hlt | hge
    · obtain ⟨x, hx⟩ := getE hlt
      obtain ⟨y, hy⟩ := getE (show i < b.length by omega)
      have hc := c_swap3 x y (hal x (List.mem_of_getElem? hx)) (hbl y (List.mem_of_getElem? hy))
      by_cases hxy : x = y
      · rw [pB_t hxy] at hc
        repeat' (first | refine o1 ?_ | refine o2 ?_ | refine k1 ?_ | refine k2 ?_ | refine k3 ?_ | refine k4 ?_ | refine k6 ?_ | refine And.intro ?_ ?_ | (intro h; first | exact Bool.noConfusion h | exact nz _ h | exact nl h | (simp at h; done) | (simp at h; first | (exfalso; omega) | skip) | skip) | exact (by kernel_rfl : drawOk _ _ = true) | refine eqv_wrap (by omega) (by omega) ?_ | refine ⟨_, _, (by first | rfl | assumption), at_map (by assumption), ?_⟩ | (change vcFun _ _ (_ ++ pvs _) _ _; refine call_cap rfl (by repeat' (first | trivial | refine And.intro ?_ ?_ | (show 0 + _ ≤ List.length _; simp))) (hc) rfl ?_) | fail)
        all_goals first
          | exact ⟨i + 1, ⟨by omega, all_lt_succ hall fun x' y' q1 q2 => by rw [hx] at q1; cases q1; rw [hy] at q2; cases q2; exact hxy⟩, by omega, back [] rfl rfl trivial (by repeat' (first | exact trivial | exact rfl | refine And.intro ?_ ?_))⟩
      · rw [pB_f hxy] at hc
        repeat' (first | refine o1 ?_ | refine o2 ?_ | refine k1 ?_ | refine k2 ?_ | refine k3 ?_ | refine k4 ?_ | refine k6 ?_ | refine k7 ?_ | refine And.intro ?_ ?_ | (intro h; first | exact Bool.noConfusion h | exact nz _ h | exact nl h | (simp at h; done) | (simp at h; first | (exfalso; omega) | skip) | skip) | (change retOk _ _ _ _; refine ret_pure rfl trivial ?_) | exact (by kernel_rfl : drawOk _ _ = true) | refine ⟨_, _, (by first | rfl | assumption), at_map (by assumption), ?_⟩ | (change vcFun _ _ (_ ++ pvs _) _ _; refine call_cap rfl (by repeat' (first | trivial | refine And.intro ?_ ?_ | (show 0 + _ ≤ List.length _; simp))) (hc) rfl ?_) | fail)
        all_goals first
          | exact congrArg vbool (pB_f fun e => hxy (by subst e; rw [hx] at hy; injection hy)).symm
    · repeat' (first | refine o1 ?_ | refine o2 ?_ | refine k1 ?_ | refine k2 ?_ | refine k3 ?_ | refine k7 ?_ | refine k8 ?_ | refine And.intro ?_ ?_ | (intro h; first | exact Bool.noConfusion h | exact nz _ h | exact nl h | (simp at h; done) | (simp at h; first | (exfalso; omega) | skip) | skip) | (change retOk _ _ _ _; refine ret_pure rfl trivial ?_) | fail)
      exact congrArg vbool (pB_t (lists_eq hl fun j hj => hall j (by omega))).symm
end Go.Proofs.YtihpjcmloecaaaaGreat.Cw
/-
  The library's sort of loads, counts and ints, and its compact of ints, laid at this seat (printed by tools/mkls.py).
-/
namespace Go.Proofs.YtihpjcmloecaaaaGreat.Cw
open Go Go.Cw Go.Proofs
set_option maxRecDepth 100000
def layLoad_ren : Go.Shelf.Ren := ⟨fun | 6 => 114 | 15 => 119 | 14 => 122 | 28 => 133 | 29 => 134 | 20 => 135 | 21 => 136 | 22 => 137 | 23 => 138 | 24 => 139 | 25 => 140 | 26 => 141 | 27 => 142 | 46 => 156 | 47 => 152 | 48 => 153 | 49 => 157 | 50 => 158 | 57 => 163 | n => n, fun | 22 => 76 | 24 => 102 | 25 => 149 | 3 => 3 | 39 => 154 | 0 => 0 | 53 => 166 | 55 => 168 | 4 => 4 | 46 => 160 | 45 => 159 | 50 => 87 | 5 => 5 | 9 => 9 | 66 => 179 | 70 => 183 | 76 => 189 | 77 => 190 | n => n, fun | n => n⟩
theorem layLoad : Go.Proofs.SlLaysF0.n6 Tryz.prog layLoad_ren where
  mixed := by kernel_rfl
  f6 := ⟨"slices.SortFunc[[]timetable/api.Load,timetable/api.Load]", by decide, Tryz.func114.trans (congrArg some (by kernel_rfl))⟩
  f14 := ⟨"slices.pdqsortCmpFunc[timetable/api.Load]", by decide, Tryz.func122.trans (congrArg some (by kernel_rfl))⟩
  f15 := Tryz.func119.trans (congrArg some (by kernel_rfl))
  f20 := ⟨"slices.insertionSortCmpFunc[timetable/api.Load]", by decide, Tryz.func135.trans (congrArg some (by kernel_rfl))⟩
  f21 := ⟨"slices.heapSortCmpFunc[timetable/api.Load]", by decide, Tryz.func136.trans (congrArg some (by kernel_rfl))⟩
  f22 := ⟨"slices.breakPatternsCmpFunc[timetable/api.Load]", by decide, Tryz.func137.trans (congrArg some (by kernel_rfl))⟩
  f23 := ⟨"slices.choosePivotCmpFunc[timetable/api.Load]", by decide, Tryz.func138.trans (congrArg some (by kernel_rfl))⟩
  f24 := ⟨"slices.reverseRangeCmpFunc[timetable/api.Load]", by decide, Tryz.func139.trans (congrArg some (by kernel_rfl))⟩
  f25 := ⟨"slices.partialInsertionSortCmpFunc[timetable/api.Load]", by decide, Tryz.func140.trans (congrArg some (by kernel_rfl))⟩
  f26 := ⟨"slices.partitionEqualCmpFunc[timetable/api.Load]", by decide, Tryz.func141.trans (congrArg some (by kernel_rfl))⟩
  f27 := ⟨"slices.partitionCmpFunc[timetable/api.Load]", by decide, Tryz.func142.trans (congrArg some (by kernel_rfl))⟩
  f28 := Tryz.func133.trans (congrArg some (by kernel_rfl))
  f29 := Tryz.func134.trans (congrArg some (by kernel_rfl))
  f46 := ⟨"slices.siftDownCmpFunc[timetable/api.Load]", by decide, Tryz.func156.trans (congrArg some (by kernel_rfl))⟩
  f47 := Tryz.func152.trans (congrArg some (by kernel_rfl))
  f48 := Tryz.func153.trans (congrArg some (by kernel_rfl))
  f49 := ⟨"slices.medianAdjacentCmpFunc[timetable/api.Load]", by decide, Tryz.func157.trans (congrArg some (by kernel_rfl))⟩
  f50 := ⟨"slices.medianCmpFunc[timetable/api.Load]", by decide, Tryz.func158.trans (congrArg some (by kernel_rfl))⟩
  f57 := ⟨"slices.order2CmpFunc[timetable/api.Load]", by decide, Tryz.func163.trans (congrArg some (by kernel_rfl))⟩
  t0 := Tryz.underlying0
  a0 := Tryz.isAgg0
  z0 := Tryz.sizeOf0
  v0 := Tryz.zeroValue0
  t3 := Tryz.underlying3
  a3 := Tryz.isAgg3
  z3 := Tryz.sizeOf3
  v3 := Tryz.zeroValue3
  t4 := Tryz.underlying4
  a4 := Tryz.isAgg4
  z4 := Tryz.sizeOf4
  v4 := Tryz.zeroValue4
  t5 := Tryz.underlying5
  a5 := Tryz.isAgg5
  z5 := Tryz.sizeOf5
  v5 := Tryz.zeroValue5
  t9 := Tryz.underlying9
  a9 := Tryz.isAgg9
  z9 := Tryz.sizeOf9
  v9 := Tryz.zeroValue9
  t22 := Tryz.underlying76
  a22 := Tryz.isAgg76
  z22 := Tryz.sizeOf76
  v22 := Tryz.zeroValue76
  t25 := Tryz.underlying149
  a25 := Tryz.isAgg149
  z25 := Tryz.sizeOf149
  v25 := Tryz.zeroValue149
  t39 := Tryz.underlying154
  a39 := Tryz.isAgg154
  z39 := Tryz.sizeOf154
  v39 := Tryz.zeroValue154
  t45 := Tryz.underlying159
  a45 := Tryz.isAgg159
  z45 := Tryz.sizeOf159
  v45 := Tryz.zeroValue159
  t46 := Tryz.underlying160
  a46 := Tryz.isAgg160
  z46 := Tryz.sizeOf160
  v46 := Tryz.zeroValue160
  t50 := Tryz.underlying87
  a50 := Tryz.isAgg87
  z50 := Tryz.sizeOf87
  v50 := Tryz.zeroValue87
  t53 := Tryz.underlying166
  a53 := Tryz.isAgg166
  z53 := Tryz.sizeOf166
  v53 := Tryz.zeroValue166
  t55 := Tryz.underlying168
  a55 := Tryz.isAgg168
  z55 := Tryz.sizeOf168
  v55 := Tryz.zeroValue168
  t66 := Tryz.underlying179
  a66 := Tryz.isAgg179
  z66 := Tryz.sizeOf179
  v66 := Tryz.zeroValue179
  t70 := Tryz.underlying183
  a70 := Tryz.isAgg183
  z70 := Tryz.sizeOf183
  v70 := Tryz.zeroValue183
  t76 := Tryz.underlying189
  a76 := Tryz.isAgg189
  z76 := Tryz.sizeOf189
  v76 := Tryz.zeroValue189
  t77 := Tryz.underlying190
  a77 := Tryz.isAgg190
  z77 := Tryz.sizeOf190
  v77 := Tryz.zeroValue190
def layCount_ren : Go.Shelf.Ren := ⟨fun | 6 => 116 | 15 => 119 | 14 => 123 | 28 => 133 | 29 => 134 | 20 => 143 | 21 => 144 | 22 => 145 | 23 => 146 | 24 => 147 | 25 => 148 | 26 => 149 | 27 => 150 | 46 => 159 | 47 => 152 | 48 => 153 | 49 => 160 | 50 => 161 | 57 => 164 | n => n, fun | 22 => 27 | 24 => 78 | 25 => 125 | 3 => 3 | 39 => 154 | 0 => 0 | 53 => 166 | 55 => 168 | 4 => 4 | 46 => 160 | 45 => 159 | 50 => 87 | 5 => 5 | 9 => 9 | 66 => 179 | 70 => 183 | 76 => 189 | 77 => 190 | n => n, fun | n => n⟩
theorem layCount : Go.Proofs.SlLaysF0.n6 Tryz.prog layCount_ren where
  mixed := by kernel_rfl
  f6 := ⟨"slices.SortFunc[[]timetable/api.Count,timetable/api.Count]", by decide, Tryz.func116.trans (congrArg some (by kernel_rfl))⟩
  f14 := ⟨"slices.pdqsortCmpFunc[timetable/api.Count]", by decide, Tryz.func123.trans (congrArg some (by kernel_rfl))⟩
  f15 := Tryz.func119.trans (congrArg some (by kernel_rfl))
  f20 := ⟨"slices.insertionSortCmpFunc[timetable/api.Count]", by decide, Tryz.func143.trans (congrArg some (by kernel_rfl))⟩
  f21 := ⟨"slices.heapSortCmpFunc[timetable/api.Count]", by decide, Tryz.func144.trans (congrArg some (by kernel_rfl))⟩
  f22 := ⟨"slices.breakPatternsCmpFunc[timetable/api.Count]", by decide, Tryz.func145.trans (congrArg some (by kernel_rfl))⟩
  f23 := ⟨"slices.choosePivotCmpFunc[timetable/api.Count]", by decide, Tryz.func146.trans (congrArg some (by kernel_rfl))⟩
  f24 := ⟨"slices.reverseRangeCmpFunc[timetable/api.Count]", by decide, Tryz.func147.trans (congrArg some (by kernel_rfl))⟩
  f25 := ⟨"slices.partialInsertionSortCmpFunc[timetable/api.Count]", by decide, Tryz.func148.trans (congrArg some (by kernel_rfl))⟩
  f26 := ⟨"slices.partitionEqualCmpFunc[timetable/api.Count]", by decide, Tryz.func149.trans (congrArg some (by kernel_rfl))⟩
  f27 := ⟨"slices.partitionCmpFunc[timetable/api.Count]", by decide, Tryz.func150.trans (congrArg some (by kernel_rfl))⟩
  f28 := Tryz.func133.trans (congrArg some (by kernel_rfl))
  f29 := Tryz.func134.trans (congrArg some (by kernel_rfl))
  f46 := ⟨"slices.siftDownCmpFunc[timetable/api.Count]", by decide, Tryz.func159.trans (congrArg some (by kernel_rfl))⟩
  f47 := Tryz.func152.trans (congrArg some (by kernel_rfl))
  f48 := Tryz.func153.trans (congrArg some (by kernel_rfl))
  f49 := ⟨"slices.medianAdjacentCmpFunc[timetable/api.Count]", by decide, Tryz.func160.trans (congrArg some (by kernel_rfl))⟩
  f50 := ⟨"slices.medianCmpFunc[timetable/api.Count]", by decide, Tryz.func161.trans (congrArg some (by kernel_rfl))⟩
  f57 := ⟨"slices.order2CmpFunc[timetable/api.Count]", by decide, Tryz.func164.trans (congrArg some (by kernel_rfl))⟩
  t0 := Tryz.underlying0
  a0 := Tryz.isAgg0
  z0 := Tryz.sizeOf0
  v0 := Tryz.zeroValue0
  t3 := Tryz.underlying3
  a3 := Tryz.isAgg3
  z3 := Tryz.sizeOf3
  v3 := Tryz.zeroValue3
  t4 := Tryz.underlying4
  a4 := Tryz.isAgg4
  z4 := Tryz.sizeOf4
  v4 := Tryz.zeroValue4
  t5 := Tryz.underlying5
  a5 := Tryz.isAgg5
  z5 := Tryz.sizeOf5
  v5 := Tryz.zeroValue5
  t9 := Tryz.underlying9
  a9 := Tryz.isAgg9
  z9 := Tryz.sizeOf9
  v9 := Tryz.zeroValue9
  t22 := Tryz.underlying27
  a22 := Tryz.isAgg27
  z22 := Tryz.sizeOf27
  v22 := Tryz.zeroValue27
  t25 := Tryz.underlying125
  a25 := Tryz.isAgg125
  z25 := Tryz.sizeOf125
  v25 := Tryz.zeroValue125
  t39 := Tryz.underlying154
  a39 := Tryz.isAgg154
  z39 := Tryz.sizeOf154
  v39 := Tryz.zeroValue154
  t45 := Tryz.underlying159
  a45 := Tryz.isAgg159
  z45 := Tryz.sizeOf159
  v45 := Tryz.zeroValue159
  t46 := Tryz.underlying160
  a46 := Tryz.isAgg160
  z46 := Tryz.sizeOf160
  v46 := Tryz.zeroValue160
  t50 := Tryz.underlying87
  a50 := Tryz.isAgg87
  z50 := Tryz.sizeOf87
  v50 := Tryz.zeroValue87
  t53 := Tryz.underlying166
  a53 := Tryz.isAgg166
  z53 := Tryz.sizeOf166
  v53 := Tryz.zeroValue166
  t55 := Tryz.underlying168
  a55 := Tryz.isAgg168
  z55 := Tryz.sizeOf168
  v55 := Tryz.zeroValue168
  t66 := Tryz.underlying179
  a66 := Tryz.isAgg179
  z66 := Tryz.sizeOf179
  v66 := Tryz.zeroValue179
  t70 := Tryz.underlying183
  a70 := Tryz.isAgg183
  z70 := Tryz.sizeOf183
  v70 := Tryz.zeroValue183
  t76 := Tryz.underlying189
  a76 := Tryz.isAgg189
  z76 := Tryz.sizeOf189
  v76 := Tryz.zeroValue189
  t77 := Tryz.underlying190
  a77 := Tryz.isAgg190
  z77 := Tryz.sizeOf190
  v77 := Tryz.zeroValue190
def laySortI_ren : Go.Shelf.Ren := ⟨fun | 189 => 90 | 125 => 119 | 257 => 118 | 128 => 133 | 129 => 134 | 294 => 124 | 295 => 125 | 296 => 126 | 297 => 127 | 298 => 128 | 299 => 129 | 216 => 130 | 300 => 131 | 301 => 132 | 328 => 151 | 329 => 152 | 330 => 153 | 331 => 154 | 332 => 155 | 215 => 121 | 343 => 162 | n => n, fun | 28 => 22 | 3 => 3 | 46 => 154 | 0 => 0 | 51 => 166 | 53 => 168 | 4 => 4 | 183 => 160 | 182 => 159 | 131 => 87 | 5 => 5 | 9 => 9 | 218 => 179 | 222 => 183 | 228 => 189 | 229 => 190 | n => n, fun | n => n⟩
theorem laySortI : Go.Proofs.Lays.n189 Tryz.prog laySortI_ren where
  mixed := by kernel_rfl
  f125 := Tryz.func119.trans (congrArg some (by kernel_rfl))
  f128 := Tryz.func133.trans (congrArg some (by kernel_rfl))
  f129 := Tryz.func134.trans (congrArg some (by kernel_rfl))
  f189 := Tryz.func90.trans (congrArg some (by kernel_rfl))
  f215 := Tryz.func121.trans (congrArg some (by kernel_rfl))
  f216 := Tryz.func130.trans (congrArg some (by kernel_rfl))
  f257 := Tryz.func118.trans (congrArg some (by kernel_rfl))
  f294 := Tryz.func124.trans (congrArg some (by kernel_rfl))
  f295 := Tryz.func125.trans (congrArg some (by kernel_rfl))
  f296 := Tryz.func126.trans (congrArg some (by kernel_rfl))
  f297 := Tryz.func127.trans (congrArg some (by kernel_rfl))
  f298 := Tryz.func128.trans (congrArg some (by kernel_rfl))
  f299 := Tryz.func129.trans (congrArg some (by kernel_rfl))
  f300 := Tryz.func131.trans (congrArg some (by kernel_rfl))
  f301 := Tryz.func132.trans (congrArg some (by kernel_rfl))
  f328 := Tryz.func151.trans (congrArg some (by kernel_rfl))
  f329 := Tryz.func152.trans (congrArg some (by kernel_rfl))
  f330 := Tryz.func153.trans (congrArg some (by kernel_rfl))
  f331 := Tryz.func154.trans (congrArg some (by kernel_rfl))
  f332 := Tryz.func155.trans (congrArg some (by kernel_rfl))
  f343 := Tryz.func162.trans (congrArg some (by kernel_rfl))
  t0 := Tryz.underlying0
  a0 := Tryz.isAgg0
  z0 := Tryz.sizeOf0
  v0 := Tryz.zeroValue0
  t3 := Tryz.underlying3
  a3 := Tryz.isAgg3
  z3 := Tryz.sizeOf3
  v3 := Tryz.zeroValue3
  t4 := Tryz.underlying4
  a4 := Tryz.isAgg4
  z4 := Tryz.sizeOf4
  v4 := Tryz.zeroValue4
  t5 := Tryz.underlying5
  a5 := Tryz.isAgg5
  z5 := Tryz.sizeOf5
  v5 := Tryz.zeroValue5
  t9 := Tryz.underlying9
  a9 := Tryz.isAgg9
  z9 := Tryz.sizeOf9
  v9 := Tryz.zeroValue9
  t28 := Tryz.underlying22
  a28 := Tryz.isAgg22
  z28 := Tryz.sizeOf22
  v28 := Tryz.zeroValue22
  t46 := Tryz.underlying154
  a46 := Tryz.isAgg154
  z46 := Tryz.sizeOf154
  v46 := Tryz.zeroValue154
  t51 := Tryz.underlying166
  a51 := Tryz.isAgg166
  z51 := Tryz.sizeOf166
  v51 := Tryz.zeroValue166
  t53 := Tryz.underlying168
  a53 := Tryz.isAgg168
  z53 := Tryz.sizeOf168
  v53 := Tryz.zeroValue168
  t131 := Tryz.underlying87
  a131 := Tryz.isAgg87
  z131 := Tryz.sizeOf87
  v131 := Tryz.zeroValue87
  t182 := Tryz.underlying159
  a182 := Tryz.isAgg159
  z182 := Tryz.sizeOf159
  v182 := Tryz.zeroValue159
  t183 := Tryz.underlying160
  a183 := Tryz.isAgg160
  z183 := Tryz.sizeOf160
  v183 := Tryz.zeroValue160
  t218 := Tryz.underlying179
  a218 := Tryz.isAgg179
  z218 := Tryz.sizeOf179
  v218 := Tryz.zeroValue179
  t222 := Tryz.underlying183
  a222 := Tryz.isAgg183
  z222 := Tryz.sizeOf183
  v222 := Tryz.zeroValue183
  t228 := Tryz.underlying189
  a228 := Tryz.isAgg189
  z228 := Tryz.sizeOf189
  v228 := Tryz.zeroValue189
  t229 := Tryz.underlying190
  a229 := Tryz.isAgg190
  z229 := Tryz.sizeOf190
  v229 := Tryz.zeroValue190
def layCompI_ren : Go.Shelf.Ren := ⟨fun | 20 => 91 | n => n, fun | 22 => 22 | 3 => 3 | 4 => 4 | 0 => 0 | n => n, fun | n => n⟩
theorem layCompI : Go.Proofs.Lays2.n20 Tryz.prog layCompI_ren where
  mixed := by kernel_rfl
  f20 := Tryz.func91.trans (congrArg some (by kernel_rfl))
  t0 := Tryz.underlying0
  a0 := Tryz.isAgg0
  z0 := Tryz.sizeOf0
  v0 := Tryz.zeroValue0
  t3 := Tryz.underlying3
  a3 := Tryz.isAgg3
  z3 := Tryz.sizeOf3
  v3 := Tryz.zeroValue3
  t4 := Tryz.underlying4
  a4 := Tryz.isAgg4
  z4 := Tryz.sizeOf4
  v4 := Tryz.zeroValue4
  t22 := Tryz.underlying22
  a22 := Tryz.isAgg22
  z22 := Tryz.sizeOf22
  v22 := Tryz.zeroValue22
  i3 := by kernel_rfl
theorem ent {f : FuncId} {fn : Func} (h : Tryz.prog.funcs[f]? = some fn) (h1 : (fn.name == "runtime.NumGoroutine") = false) (h2 : fn.body.isNone = false) : Enterable Tryz.prog f := ⟨fn, h, h1, h2⟩
theorem c_sortI (ss : List Int) (hne : ss ≠ []) (hl : ss.length ≤ 1000000000000) :
    ACall Tryz.prog 90 [.ms 0 1 0 ss.length] [some ⟨3, 1, false, .p (ss.map intRow)⟩] fun r H' => r = .tup [] ∧ H' = [some ⟨3, 1, false, .p ((sortI ss).map intRow)⟩] :=
  acall_sortI laySortI (ent Tryz.func90 (by kernel_rfl) (by kernel_rfl)) 3 ss hne (by omega)
theorem c_sortI0 : PCall Tryz.prog 90 [.pv (.val (.slice none 0 0))] (fun r => r = .tup []) := acall_sortI0 laySortI (ent Tryz.func90 (by kernel_rfl) (by kernel_rfl))
theorem c_compactI (ss : List Int) (hne : ss ≠ []) (hl : ss.length ≤ 1000000000000) :
    ACall Tryz.prog 91 [.ms 0 1 0 ss.length] [some ⟨3, 1, false, .p (ss.map intRow)⟩] fun r H' => r = .ms 0 1 0 (compactI ss).length ∧ ∃ zs : List Int, H' = [some ⟨3, 1, false, .p ((compactI ss).map intRow ++ zs.map intRow)⟩] :=
  acall_compactI layCompI (ent Tryz.func91 (by kernel_rfl) (by kernel_rfl)) 3 ss hne (by omega)
theorem c_compactI0 : PCall Tryz.prog 91 [.pv (.val (.slice none 0 0))] (fun r => r = .pv (.val (.slice none 0 0))) := acall_compactI0 layCompI (ent Tryz.func91 (by kernel_rfl) (by kernel_rfl))
theorem c_sortL (xs : List (List PV)) (C : List PV → List PV → Int) (hC : ∀ x ∈ xs, ∀ y ∈ xs, PCall Tryz.prog 115 ([.agg (pvs x), .agg (pvs y)] ++ pvs []) (fun r => r = vint .i64 (C x y))) (hO : WeakOrd C xs) (hne : xs ≠ []) (hlen : xs.length ≤ 1000000000000) :
    ACall Tryz.prog 114 [.ms 0 3 0 xs.length, .pv (.fn 115 [])] [some ⟨102, 3, false, .p xs⟩] fun r H' => r = .tup [] ∧ ∃ ys, ys.Perm xs ∧ RowsAsc C ys ∧ H' = [some ⟨102, 3, false, .p ys⟩] :=
  acall_sortK layLoad (ent Tryz.func114 (by kernel_rfl) (by kernel_rfl)) Tryz.isAgg102 Tryz.sizeOf102 102 xs 115 [] C (Go.Proofs.enters_of Tryz.func115 (by kernel_rfl) rfl) hC hO (by decide) hne (by omega)
theorem c_sortC (xs : List (List PV)) (C : List PV → List PV → Int) (hC : ∀ x ∈ xs, ∀ y ∈ xs, PCall Tryz.prog 88 ([.agg (pvs x), .agg (pvs y)] ++ pvs []) (fun r => r = vint .i64 (C x y))) (hO : WeakOrd C xs) (hne : xs ≠ []) (hlen : xs.length ≤ 1000000000000) :
    ACall Tryz.prog 116 [.ms 0 4 0 xs.length, .pv (.fn 88 [])] [some ⟨78, 4, false, .p xs⟩] fun r H' => r = .tup [] ∧ ∃ ys, ys.Perm xs ∧ RowsAsc C ys ∧ H' = [some ⟨78, 4, false, .p ys⟩] :=
  acall_sortK layCount (ent Tryz.func116 (by kernel_rfl) (by kernel_rfl)) Tryz.isAgg78 Tryz.sizeOf78 78 xs 88 [] C (Go.Proofs.enters_of Tryz.func88 (by kernel_rfl) rfl) hC hO (by decide) hne (by omega)
end Go.Proofs.YtihpjcmloecaaaaGreat.Cw
/-
  Symmetry, plain: orders of loads and counts are total; sorted lists.
-/
namespace Go.Proofs.YtihpjcmloecaaaaGreat.Cw
open Go Go.Cw Go.Proofs
set_option linter.unusedVariables false
set_option maxRecDepth 100000
set_option maxHeartbeats 8000000
structure TotC {α : Type} (C : α → α → Int) : Prop where
  zero : ∀ x y, C x y = 0 ↔ x = y
  neg : ∀ x y, C x y < 0 ↔ 0 < C y x
  trans : ∀ x y z, C x y < 0 → C y z < 0 → C x z < 0
theorem TotC.refl {α : Type} {C : α → α → Int} (h : TotC C) (x : α) : C x x = 0 := (h.zero x x).2 rfl
theorem TotC.le_trans {α : Type} {C : α → α → Int} (h : TotC C) {x y z : α} (h1 : C x y ≤ 0) (h2 : C y z ≤ 0) : C x z ≤ 0 := by
  rcases Int.lt_or_eq_of_le h1 with h1 | h1
  · rcases Int.lt_or_eq_of_le h2 with h2 | h2
    · exact Int.le_of_lt (h.trans x y z h1 h2)
    · have := (h.zero _ _).1 h2; subst this; exact Int.le_of_lt h1
  · have := (h.zero _ _).1 h1; subst this; exact h2
theorem TotC.anti {α : Type} {C : α → α → Int} (h : TotC C) {x y : α} (h1 : C x y ≤ 0) (h2 : C y x ≤ 0) : x = y := by
  rcases Int.lt_or_eq_of_le h1 with h1 | h1
  · have := (h.neg _ _).1 h1; omega
  · exact (h.zero _ _).1 h1
theorem TotC.total {α : Type} {C : α → α → Int} (h : TotC C) (x y : α) : C x y ≤ 0 ∨ C y x ≤ 0 := by
  rcases Int.lt_or_le 0 (C x y) with h1 | h1
  · exact .inr (Int.le_of_lt ((h.neg _ _).2 h1))
  · exact .inl h1
def srt {α : Type} (C : α → α → Int) (l : List α) : List α := l.mergeSort fun x y => decide (C x y ≤ 0)
theorem srt_len {α : Type} {C : α → α → Int} (l : List α) : (srt C l).length = l.length := List.length_mergeSort _
theorem srt_perm {α : Type} {C : α → α → Int} (l : List α) : (srt C l).Perm l := List.mergeSort_perm ..
theorem srt_sorted {α : Type} {C : α → α → Int} (h : TotC C) (l : List α) : (srt C l).Pairwise fun x y => C x y ≤ 0 := by
  refine (List.pairwise_mergeSort (le := fun x y => decide (C x y ≤ 0)) ?_ ?_ l).imp fun {a b} h => of_decide_eq_true h
  · intro a b c h1 h2
    exact decide_eq_true (h.le_trans (of_decide_eq_true h1) (of_decide_eq_true h2))
  · intro a b
    rcases h.total a b with k | k
    · simp [k]
    · simp [k]
theorem srt_unique {α : Type} {C : α → α → Int} (h : TotC C) {a b : List α} (hp : a.Perm b) (ha : a.Pairwise fun x y => C x y ≤ 0) (hb : b.Pairwise fun x y => C x y ≤ 0) : a = b :=
  List.Perm.eq_of_pairwise (le := fun x y => C x y ≤ 0) (fun x y _ _ h1 h2 => h.anti h1 h2) ha hb hp
theorem srt_eq {α : Type} {C : α → α → Int} (h : TotC C) {a b : List α} : srt C a = srt C b ↔ a.Perm b :=
  ⟨fun e => (srt_perm a).symm.trans (e ▸ srt_perm b), fun hp => srt_unique h ((srt_perm a).trans (hp.trans (srt_perm b).symm)) (srt_sorted h a) (srt_sorted h b)⟩
theorem srt_rows {α : Type} {C : α → α → Int} (h : TotC C) {row : α → List PV} {un : List PV → α} (hun : ∀ a, un (row a) = a) {l : List α} {ys : List (List PV)} (hp : ys.Perm (l.map row)) (ha : RowsAsc (fun x y => C (un x) (un y)) ys) : ys = (srt C l).map row := by
  have hmu : (l.map row).map un = l := by
    rw [List.map_map]
    have : (un ∘ row) = id := funext hun
    rw [this, List.map_id]
  have e : ys = (ys.map un).map row := by
    rw [List.map_map]
    have : ys.map (row ∘ un) = ys.map id := List.map_congr_left fun x hx => by
      obtain ⟨s, -, rfl⟩ := List.mem_map.1 (hp.subset hx)
      show row (un (row s)) = row s
      rw [hun]
    rw [this, List.map_id]
  have hp2 : (ys.map un).Perm l := by
    have := hp.map un
    rwa [hmu] at this
  have hs : (ys.map un).Pairwise fun x y => C x y ≤ 0 := by
    rw [List.pairwise_iff_getElem]
    intro i j hi hj hij
    rw [List.length_map] at hi hj
    have h1 : ¬ C (un ys[j]) (un ys[i]) < 0 := ha i j _ _ hij (List.getElem?_eq_getElem hi) (List.getElem?_eq_getElem hj)
    rw [List.getElem_map, List.getElem_map]
    have h2 := h.neg (un ys[j]) (un ys[i])
    exact Int.not_lt.1 fun k => h1 (h2.2 k)
  rw [srt_unique h (hp2.trans (srt_perm (C := C) l).symm) hs (srt_sorted h l)] at e
  exact e
theorem weak_of {α : Type} {C : α → α → Int} (h : TotC C) {row : α → List PV} {un : List PV → α} (hun : ∀ a, un (row a) = a) (l : List α) : WeakOrd (fun x y => C (un x) (un y)) (l.map row) := by
  refine ⟨fun x hx => ?_, fun x hx y hy z hz h1 h2 => ?_, fun x hx y hy z hz h1 h2 => ?_⟩
  · show ¬ C (un x) (un x) < 0
    rw [h.refl]; omega
  · exact h.trans _ _ _ h1 h2
  · have e1 := h.neg (un y) (un x)
    have e2 := h.neg (un z) (un y)
    have e3 := h.neg (un z) (un x)
    have e1' := h.neg (un x) (un y)
    have e2' := h.neg (un y) (un z)
    have e3' := h.neg (un x) (un z)
    have hl := h.le_trans (x := un z) (y := un y) (z := un x)
    omega
theorem ld_lt {x y : Load} : ldC x y < 0 ↔ x.cls < y.cls ∨ (x.cls = y.cls ∧ (x.opt < y.opt ∨ (x.opt = y.opt ∧ x.weight < y.weight))) := by
  simp only [ldC, orI, cmpI]
  grind
theorem ct_lt {x y : Count} : ctC x y < 0 ↔ x.rule < y.rule ∨ (x.rule = y.rule ∧ (x.most < y.most ∨ (x.most = y.most ∧ (x.penalty < y.penalty ∨ (x.penalty = y.penalty ∧ lexL x.loads y.loads < 0))))) := by
  simp only [ctC]
  generalize lexL x.loads y.loads = a at *
  simp only [orI, cmpI]
  grind
theorem totLd : TotC ldC := by
  refine ⟨fun x y => ld_zero, fun x y => ?_, fun x y z => ?_⟩
  · simp only [ldC, orI, cmpI]
    grind
  · rw [ld_lt, ld_lt, ld_lt]; omega
theorem lex_neg : ∀ {a b : List Load}, lexL a b < 0 ↔ 0 < lexL b a
  | [], [] => by simp [lexL]
  | [], _ :: _ => by simp [lexL]
  | _ :: _, [] => by simp [lexL]
  | x :: a, y :: b => by
    have ih := lex_neg (a := a) (b := b)
    have h1 := totLd.neg x y
    have h2 := totLd.neg y x
    unfold lexL
    split <;> split <;> omega
theorem lex_trans : ∀ {a b c : List Load}, lexL a b < 0 → lexL b c < 0 → lexL a c < 0
  | [], [], c, h, _ => by simp [lexL] at h
  | [], _ :: _, [], _, h => by simp [lexL] at h
  | [], _ :: _, _ :: _, _, _ => by simp [lexL]
  | _ :: _, [], c, h, _ => by simp [lexL] at h
  | _ :: _, _ :: _, [], _, h => by simp [lexL] at h
  | x :: a, y :: b, z :: c, h1, h2 => by
    have ih := lex_trans (a := a) (b := b) (c := c)
    have t := totLd.trans x y z
    have e1 := ld_zero (x := x) (y := y)
    have e2 := ld_zero (x := y) (y := z)
    have e3 := ld_zero (x := x) (y := z)
    unfold lexL at h1 h2 ⊢
    split at h1
    · split at h2
      · have := t h1 h2
        rw [if_pos (by omega)]; exact this
      · have := e2.1 (by omega); subst this
        rw [if_pos (by omega)]; exact h1
    · have := e1.1 (by omega); subst this
      split at h2
      · rw [if_pos (by assumption)]; exact h2
      · rw [if_neg (by assumption)]; exact ih h1 h2
theorem totLex : TotC lexL := ⟨fun _ _ => lex_zero, fun _ _ => lex_neg, fun _ _ _ => lex_trans⟩
theorem totCt : TotC ctC := by
  refine ⟨fun x y => ct_zero, fun x y => ?_, fun x y z => ?_⟩
  · have h1 := lex_neg (a := x.loads) (b := y.loads)
    have h2 := lex_neg (a := y.loads) (b := x.loads)
    simp only [ctC]
    generalize lexL x.loads y.loads = a at *
    generalize lexL y.loads x.loads = b at *
    simp only [orI, cmpI]
    grind
  · have h1 := totLex.trans x.loads y.loads z.loads
    have h2 := totLex.zero x.loads y.loads
    have h3 := totLex.zero y.loads z.loads
    have h4 := totLex.zero x.loads z.loads
    have h5 : lexL x.loads y.loads = 0 → lexL x.loads z.loads = lexL y.loads z.loads := fun e => by rw [h2.1 e]
    have h6 : lexL y.loads z.loads = 0 → lexL x.loads z.loads = lexL x.loads y.loads := fun e => by rw [h3.1 e]
    clear h2 h3 h4
    rw [ct_lt, ct_lt, ct_lt]
    generalize lexL x.loads y.loads = a at *
    generalize lexL y.loads z.loads = b at *
    generalize lexL x.loads z.loads = c at *
    omega
def unLoad : List PV → Load
  | [.val (.int _ a), .val (.int _ b), .val (.int _ c)] => ⟨a, b, c⟩
  | _ => ⟨0, 0, 0⟩
theorem unLoad_row (l : Load) : unLoad l.row = l := rfl
def unCount : List PV → Count
  | [.val (.int _ a), .sl _ r, .val (.int _ b), .val (.int _ c)] => ⟨a, r.map unLoad, b, c⟩
  | _ => ⟨0, [], 0, 0⟩
theorem unCount_row (c : Count) : unCount c.row = c := by
  obtain ⟨a, l, b, d⟩ := c
  show Count.mk a ((l.map Load.row).map unLoad) b d = _
  rw [List.map_map]
  have : (unLoad ∘ Load.row) = id := funext unLoad_row
  rw [this, List.map_id]
theorem c_sortLoads (l : List Load) (hne : l ≠ []) (hl : l.length ≤ 100000) :
    ACall Tryz.prog 114 [.ms 0 3 0 l.length, .pv (.fn 115 [])] [some ⟨102, 3, false, .p (l.map Load.row)⟩] fun r H' => r = .tup [] ∧ H' = [some ⟨102, 3, false, .p ((srt ldC l).map Load.row)⟩] := by
  have h := c_sortL (l.map Load.row) (fun x y => ldC (unLoad x) (unLoad y)) (fun x hx y hy => by
    obtain ⟨a, ha, rfl⟩ := List.mem_map.1 hx
    obtain ⟨b, hb, rfl⟩ := List.mem_map.1 hy
    exact c_loads a b) (weak_of totLd unLoad_row l) (fun e => hne (List.map_eq_nil_iff.1 e)) (by rw [List.length_map]; omega)
  rw [List.length_map] at h
  exact h.mono fun r H' ⟨h1, ys, h2, h3, h4⟩ => ⟨h1, by rw [h4, srt_rows totLd unLoad_row h2 h3]⟩
theorem c_sortCounts (l : List Count) (hne : l ≠ []) (hl : l.length ≤ 100000) (hc : ∀ c ∈ l, c.loads.length ≤ 100000) :
    ACall Tryz.prog 116 [.ms 0 4 0 l.length, .pv (.fn 88 [])] [some ⟨78, 4, false, .p (l.map Count.row)⟩] fun r H' => r = .tup [] ∧ H' = [some ⟨78, 4, false, .p ((srt ctC l).map Count.row)⟩] := by
  have h := c_sortC (l.map Count.row) (fun x y => ctC (unCount x) (unCount y)) (fun x hx y hy => by
    obtain ⟨a, ha, rfl⟩ := List.mem_map.1 hx
    obtain ⟨b, hb, rfl⟩ := List.mem_map.1 hy
    rw [unCount_row, unCount_row]
    exact c_order22 a b (hc a ha) (hc b hb)) (weak_of totCt unCount_row l) (fun e => hne (List.map_eq_nil_iff.1 e)) (by rw [List.length_map]; omega)
  rw [List.length_map] at h
  exact h.mono fun r H' ⟨h1, ys, h2, h3, h4⟩ => ⟨h1, by rw [h4, srt_rows totCt unCount_row h2 h3]⟩
end Go.Proofs.YtihpjcmloecaaaaGreat.Cw
/-
  Symmetry: slices.Clone of counts, loads and ints: what it hands back, as_ an object of its own.
-/
namespace Go.Cw
theorem Ghost.shutK {n nh : Nat} {Γ : Slots} {H : Heap} {i k c ty z : Nat} {fz : Bool} {r : List PV} {xs : List (List PV)} {r0 : List AV} {x y : AV} {p' : PV} (hi : H[i]? = some (some ⟨ty, z, fz, .m ((xs.map pvs).set k r0)⟩)) (hk : xs[k]? = some r) (hr : r0 = (pvs r).set c x) (hlt : c < r.length)
    (hc : conv H x = some y) (hok : ok1 H x) (hn : i ∉ ids1 H x) (hle : ALe y (.pv p')) :
    Ghost n nh Γ H Γ ((app H (frz H (ids1 H x))).set i (some ⟨ty, z, fz, .p (xs.set k (r.set c p'))⟩)) := by
  have hkl : k < xs.length := (List.getElem?_eq_some_iff.1 hk).1
  refine Ghost.shutR (o := ⟨ty, z, fz, .m ((xs.map pvs).set k r0)⟩) hi (fun h j q hq => ?_) (fun c t => rfl) (fun j m u hu => ?_) hc hok hn hle
  · rw [List.getElem?_set] at hq
    split at hq
    · rename_i e; subst e
      injection hq with hq; subst hq
      have := h k r0 (by rw [List.getElem?_set_self (by simpa using hkl)])
      rw [hr, List.length_set, pvs_map, List.length_map] at this
      rw [List.length_set]; exact this
    · rename_i e
      have := h j (pvs q) (by rw [List.getElem?_set_ne e, List.getElem?_map, hq]; rfl)
      rw [pvs_map, List.length_map] at this; exact this
  · by_cases e : k = j
    · subst e
      simp only [rowCell] at hu ⊢
      rw [List.getElem?_set_self hkl] at hu
      rw [List.getElem?_set_self (by simpa using hkl), hr]
      simp only [Option.bind_some] at hu ⊢
      by_cases e : c = m
      · subst e
        right
        rw [List.getElem?_set_self hlt] at hu
        injection hu with hu
        exact ⟨hu.symm, List.getElem?_set_self (by rw [pvs_map, List.length_map]; exact hlt)⟩
      · left
        rw [List.getElem?_set_ne e] at hu ⊢
        rw [pvs_map, List.getElem?_map]; exact hu
    · left
      simp only [rowCell] at hu ⊢
      rw [List.getElem?_set_ne e] at hu ⊢
      rw [List.getElem?_map]
      cases h : xs[j]? with
      | none => rw [h] at hu; simp at hu
      | some q => rw [h] at hu; simpa [pvs_map] using hu
end Go.Cw
namespace Go.Proofs.YtihpjcmloecaaaaGreat.Cw
open Go Go.Cw Go.Proofs Go.RowKit
set_option linter.unusedVariables false
set_option maxRecDepth 100000
set_option maxHeartbeats 4000000
theorem below_evo {I : Nat → Prop} {w w' : World} {β' : Beta} {I' : Nat → Prop} (hH : HSim I [] [] w) (hb : Below w.heap.size w w') (hf : ∀ (i : Nat) b, β'[i]? = some (some b) → w.heap.size ≤ b.1) (hI : ∀ b, I b → I' b) (hI2 : ∀ b, I' b → I b ∨ w.heap.size ≤ b) (hd : w.drawn ≤ w'.drawn) : Evo I [] w I' β' w' :=
  ⟨hb.os, hb.tape, hb.output, hb.size, fun i b h => by simp at h, fun i b h => .inl (hf i b h), fun b h _ => hb.block b h, fun b h => ⟨hb.block b (hH.imm b h), hI b h⟩, fun b h h2 => (hI2 b h2).elim .inl fun h3 => by omega, fun b t n h => by
    have hlt : b < w.heap.size := by
      unfold World.shape? at h
      rcases Nat.lt_or_ge b w.heap.size with h1 | h1
      · exact h1
      · rw [Array.getElem?_eq_none h1] at h; cases h
    unfold World.shape? at h ⊢
    rw [hb.block b hlt]; exact h, hd⟩
theorem own_none {I : Nat → Prop} {w w' : World} {v : Value} {z : Nat} {te : TypeId} (hH : HSim I [] [] w) (ho : w'.ownsRow w.heap.size te z v 0 []) (hb : Below w.heap.size w w') (hd : w.drawn ≤ w'.drawn) :
    ∃ I' β', HSim I' β' [] w' ∧ ARel I' β' w' (.pv (.sl z [])) v ∧ Evo I [] w I' β' w' := by
  have hsl : ∃ ad cap, v = .slice ad 0 cap := by
    obtain ⟨-, ⟨rfl, -⟩ | ⟨g, cap, cur, rfl, -⟩⟩ := ho
    · exact ⟨_, _, rfl⟩
    · exact ⟨_, _, rfl⟩
  obtain ⟨ad, cap, rfl⟩ := hsl
  exact ⟨I, [], ⟨rfl, fun i o h => by simp at h, fun i j oi oj b b' h => by simp at h, ⟨fun b h => Nat.lt_of_lt_of_le (hH.imm b h) hb.size, hH.imm.gl.mono fun b h => ⟨hb.block b (hH.imm b h), h⟩⟩, fun i b h => by simp at h⟩,
    .pv (.sl (xs := []) (fun _ _ => undef) (Nat.zero_le _) (fun i r h => by simp at h) fun i r j p h => by simp at h), below_evo hH hb (fun i b h => by simp at h) (fun b h => h) (fun b h => .inl h) hd⟩
theorem c_cloneC (l : List Count) (hl : 0 < l.length ∧ l.length ≤ 100000) : ACall Tryz.prog 113 [.pv (.sl 4 (l.map Count.row))] [] (fun r H' => r = .ms 0 4 0 l.length ∧ H' = [some ⟨78, 4, false, .p (l.map Count.row)⟩]) := by
  obtain ⟨hl0, hl⟩ := hl
  rcases l with _ | ⟨x, l⟩
  · exact absurd hl0 (by simp)
  refine acall_of tok mixed 8 rfl (fn := Tryz.f113) (c := Tryz.f113.body.getD .skip) (by kernel_rfl) (by kernel_rfl) (by kernel_rfl) rfl 0 rfl ?_
  repeat' (first | ((show rowsLen _ * _ ≤ _; simp [rowsLen] at *; omega)) | ((show rowsLen _ ≤ _; simp [rowsLen] at *; omega)) | (refine eqv_to (Rows.p ((x :: l).map Count.row)) rfl (eqv_to (x :: l).length (by simp [rowsLen]) ?_)) | refine o1 ?_ | refine o2 ?_ | refine k1 ?_ | refine k2 ?_ | refine k3 ?_ | refine k6 ?_ | refine k7 ?_ | refine And.intro ?_ ?_ | (intro h; first | exact Bool.noConfusion h | exact nz _ h | exact nl h | (simp at h; done) | (simp at h; first | (exfalso; omega) | skip) | skip) | (refine (?_ : srcLen _ = rowsLen _); rfl) | (refine (?_ : _ = rowsLen _); simp [rowsLen] <;> omega) | fail)
  exact ret_obj [1] [some ⟨78, 4, false, .p ((x :: l).map Count.row)⟩] rfl rfl ⟨rfl, trivial⟩ (r' := .ms 0 4 0 (x :: l).length) rfl ⟨rfl, rfl⟩
set_option maxHeartbeats 2000000 in
theorem clone_emptyC (ad : Option Addr) (cap : Nat) (w : World) : Calls Tryz.prog 113 #[.slice ad 0 cap] w fun e w' => ∃ v', e = .returned v' ∧ w'.ownsRow w.heap.size 78 4 v' 0 [] ∧ Below w.heap.size w w' ∧ w.drawn ≤ w'.drawn := by
  have t4 := Tryz.underlying4; have a4 := Tryz.isAgg4; have z4 := Tryz.sizeOf4; have v4 := Tryz.zeroValue4
  have t9 := Tryz.underlying78; have a9 := Tryz.isAgg78; have z9 := Tryz.sizeOf78; have v9 := Tryz.zeroValue78
  have t28 := Tryz.underlying27; have a28 := Tryz.isAgg27; have z28 := Tryz.sizeOf27; have v28 := Tryz.zeroValue27
  have mx : Tryz.prog.follows .mixedOrders = true := mixed
  have q28 : ∀ (w : World) (a : Option Addr) (n c n' c' : Nat), (binOp .eql 27 (.slice a n c) (.slice none n' c')).run Tryz.prog w = .ok (.bool a.isNone) w := fun w a n c n' c' => Lib.run_eql_slice_nil w _ _ a n c n' c' t28
  have u28 : ∀ w, Sem.run Tryz.prog (underlying 27) w = .ok (TypeDesc.slice 78) w := run_underlying t28
  cases ad with
  | none =>
    go_enter Tryz.func113, Tryz.ntmps113
    go_wp2
    go_ret
    exact ⟨_, rfl, ⟨rfl, .inl ⟨rfl, rfl⟩⟩, Below.refl _ w, Nat.le_refl _⟩
  | some a =>
    go_enter Tryz.func113, Tryz.ntmps113
    go_wp2
    go_ret
    exact ⟨_, rfl, World.ownsRow_made w #[] 0 (Nat.le_refl _) (Nat.zero_le _) rfl, (Below.refl _ w).alloc (Nat.le_refl _) _, Nat.le_refl _⟩
theorem c_cloneCE (x0 : Count) : PCall Tryz.prog 113 [.pv (.sl 4 [])] (fun r => r = .pv (.sl 4 [])) := by
  refine ⟨(c_cloneC [x0] ⟨by simp, by simp⟩).1, fun I β w vs hH hs ha => ?_⟩
  have hv := ha 0 _ rfl
  obtain rfl : β = [] := List.eq_nil_of_length_eq_zero hH.len
  obtain ⟨v, rfl⟩ : ∃ v, vs = #[v] := ⟨vs[0]'(by rw [hs]; decide), by
    apply Array.ext
    · exact hs
    · intro i h1 h2
      have : i = 0 := by simp at h2; omega
      subst this; rfl⟩
  have hv : ARel I [] w (.pv (.sl 4 [])) v := hv
  obtain ⟨ad, cap, rfl⟩ : ∃ ad cap, v = .slice ad 0 cap := by
    cases hv with
    | pv h =>
      have h : PRel I w (.sl 4 []) v := h
      cases h with
      | sl u hc h1 h2 => exact ⟨_, _, rfl⟩
  refine (clone_emptyC ad cap w).mono ?_
  rintro e w' ⟨v', rfl, ho, hb, hd⟩
  obtain ⟨I', β', h1, h2, h3⟩ := own_none hH ho hb hd
  exact ⟨_, _, I', β', v', rfl, ⟨rfl, rfl⟩, h1, h2, h3⟩
theorem c_cloneL (l : List Load) (hl : 0 < l.length ∧ l.length ≤ 100000) : ACall Tryz.prog 96 [.pv (.sl 3 (l.map Load.row))] [] (fun r H' => r = .ms 0 3 0 l.length ∧ H' = [some ⟨102, 3, false, .p (l.map Load.row)⟩]) := by
  obtain ⟨hl0, hl⟩ := hl
  rcases l with _ | ⟨x, l⟩
  · exact absurd hl0 (by simp)
  refine acall_of tok mixed 8 rfl (fn := Tryz.f96) (c := Tryz.f96.body.getD .skip) (by kernel_rfl) (by kernel_rfl) (by kernel_rfl) rfl 0 rfl ?_
  repeat' (first | ((show rowsLen _ * _ ≤ _; simp [rowsLen] at *; omega)) | ((show rowsLen _ ≤ _; simp [rowsLen] at *; omega)) | (refine eqv_to (Rows.p ((x :: l).map Load.row)) rfl (eqv_to (x :: l).length (by simp [rowsLen]) ?_)) | refine o1 ?_ | refine o2 ?_ | refine k1 ?_ | refine k2 ?_ | refine k3 ?_ | refine k6 ?_ | refine k7 ?_ | refine And.intro ?_ ?_ | (intro h; first | exact Bool.noConfusion h | exact nz _ h | exact nl h | (simp at h; done) | (simp at h; first | (exfalso; omega) | skip) | skip) | (refine (?_ : srcLen _ = rowsLen _); rfl) | (refine (?_ : _ = rowsLen _); simp [rowsLen] <;> omega) | fail)
  exact ret_obj [1] [some ⟨102, 3, false, .p ((x :: l).map Load.row)⟩] rfl rfl ⟨rfl, trivial⟩ (r' := .ms 0 3 0 (x :: l).length) rfl ⟨rfl, rfl⟩
set_option maxHeartbeats 2000000 in
theorem clone_emptyL (ad : Option Addr) (cap : Nat) (w : World) : Calls Tryz.prog 96 #[.slice ad 0 cap] w fun e w' => ∃ v', e = .returned v' ∧ w'.ownsRow w.heap.size 102 3 v' 0 [] ∧ Below w.heap.size w w' ∧ w.drawn ≤ w'.drawn := by
  have t4 := Tryz.underlying4; have a4 := Tryz.isAgg4; have z4 := Tryz.sizeOf4; have v4 := Tryz.zeroValue4
  have t9 := Tryz.underlying102; have a9 := Tryz.isAgg102; have z9 := Tryz.sizeOf102; have v9 := Tryz.zeroValue102
  have t28 := Tryz.underlying76; have a28 := Tryz.isAgg76; have z28 := Tryz.sizeOf76; have v28 := Tryz.zeroValue76
  have mx : Tryz.prog.follows .mixedOrders = true := mixed
  have q28 : ∀ (w : World) (a : Option Addr) (n c n' c' : Nat), (binOp .eql 76 (.slice a n c) (.slice none n' c')).run Tryz.prog w = .ok (.bool a.isNone) w := fun w a n c n' c' => Lib.run_eql_slice_nil w _ _ a n c n' c' t28
  have u28 : ∀ w, Sem.run Tryz.prog (underlying 76) w = .ok (TypeDesc.slice 102) w := run_underlying t28
  cases ad with
  | none =>
    go_enter Tryz.func96, Tryz.ntmps96
    go_wp2
    go_ret
    exact ⟨_, rfl, ⟨rfl, .inl ⟨rfl, rfl⟩⟩, Below.refl _ w, Nat.le_refl _⟩
  | some a =>
    go_enter Tryz.func96, Tryz.ntmps96
    go_wp2
    go_ret
    exact ⟨_, rfl, World.ownsRow_made w #[] 0 (Nat.le_refl _) (Nat.zero_le _) rfl, (Below.refl _ w).alloc (Nat.le_refl _) _, Nat.le_refl _⟩
theorem c_cloneLE (x0 : Load) : PCall Tryz.prog 96 [.pv (.sl 3 [])] (fun r => r = .pv (.sl 3 [])) := by
  refine ⟨(c_cloneL [x0] ⟨by simp, by simp⟩).1, fun I β w vs hH hs ha => ?_⟩
  have hv := ha 0 _ rfl
  obtain rfl : β = [] := List.eq_nil_of_length_eq_zero hH.len
  obtain ⟨v, rfl⟩ : ∃ v, vs = #[v] := ⟨vs[0]'(by rw [hs]; decide), by
    apply Array.ext
    · exact hs
    · intro i h1 h2
      have : i = 0 := by simp at h2; omega
      subst this; rfl⟩
  have hv : ARel I [] w (.pv (.sl 3 [])) v := hv
  obtain ⟨ad, cap, rfl⟩ : ∃ ad cap, v = .slice ad 0 cap := by
    cases hv with
    | pv h =>
      have h : PRel I w (.sl 3 []) v := h
      cases h with
      | sl u hc h1 h2 => exact ⟨_, _, rfl⟩
  refine (clone_emptyL ad cap w).mono ?_
  rintro e w' ⟨v', rfl, ho, hb, hd⟩
  obtain ⟨I', β', h1, h2, h3⟩ := own_none hH ho hb hd
  exact ⟨_, _, I', β', v', rfl, ⟨rfl, rfl⟩, h1, h2, h3⟩
theorem c_cloneI (l : List Int) (hl : 0 < l.length ∧ l.length ≤ 100000) : ACall Tryz.prog 44 [.pv (.sl 1 (l.map intRow))] [] (fun r H' => r = .ms 0 1 0 l.length ∧ H' = [some ⟨3, 1, false, .p (l.map intRow)⟩]) := by
  obtain ⟨hl0, hl⟩ := hl
  rcases l with _ | ⟨x, l⟩
  · exact absurd hl0 (by simp)
  refine acall_of tok mixed 8 rfl (fn := Tryz.f44) (c := Tryz.f44.body.getD .skip) (by kernel_rfl) (by kernel_rfl) (by kernel_rfl) rfl 0 rfl ?_
  repeat' (first | ((show rowsLen _ * _ ≤ _; simp [rowsLen] at *; omega)) | ((show rowsLen _ ≤ _; simp [rowsLen] at *; omega)) | (refine eqv_to (Rows.p ((x :: l).map intRow)) rfl (eqv_to (x :: l).length (by simp [rowsLen]) ?_)) | refine o1 ?_ | refine o2 ?_ | refine k1 ?_ | refine k2 ?_ | refine k3 ?_ | refine k6 ?_ | refine k7 ?_ | refine And.intro ?_ ?_ | (intro h; first | exact Bool.noConfusion h | exact nz _ h | exact nl h | (simp at h; done) | (simp at h; first | (exfalso; omega) | skip) | skip) | (refine (?_ : srcLen _ = rowsLen _); rfl) | (refine (?_ : _ = rowsLen _); simp [rowsLen] <;> omega) | fail)
  exact ret_obj [1] [some ⟨3, 1, false, .p ((x :: l).map intRow)⟩] rfl rfl ⟨rfl, trivial⟩ (r' := .ms 0 1 0 (x :: l).length) rfl ⟨rfl, rfl⟩
set_option maxHeartbeats 2000000 in
theorem clone_emptyI (ad : Option Addr) (cap : Nat) (w : World) : Calls Tryz.prog 44 #[.slice ad 0 cap] w fun e w' => ∃ v', e = .returned v' ∧ w'.ownsRow w.heap.size 3 1 v' 0 [] ∧ Below w.heap.size w w' ∧ w.drawn ≤ w'.drawn := by
  have t4 := Tryz.underlying4; have a4 := Tryz.isAgg4; have z4 := Tryz.sizeOf4; have v4 := Tryz.zeroValue4
  have t9 := Tryz.underlying3; have a9 := Tryz.isAgg3; have z9 := Tryz.sizeOf3; have v9 := Tryz.zeroValue3
  have t28 := Tryz.underlying22; have a28 := Tryz.isAgg22; have z28 := Tryz.sizeOf22; have v28 := Tryz.zeroValue22
  have mx : Tryz.prog.follows .mixedOrders = true := mixed
  have q28 : ∀ (w : World) (a : Option Addr) (n c n' c' : Nat), (binOp .eql 22 (.slice a n c) (.slice none n' c')).run Tryz.prog w = .ok (.bool a.isNone) w := fun w a n c n' c' => Lib.run_eql_slice_nil w _ _ a n c n' c' t28
  have u28 : ∀ w, Sem.run Tryz.prog (underlying 22) w = .ok (TypeDesc.slice 3) w := run_underlying t28
  cases ad with
  | none =>
    go_enter Tryz.func44, Tryz.ntmps44
    go_wp2
    go_ret
    exact ⟨_, rfl, ⟨rfl, .inl ⟨rfl, rfl⟩⟩, Below.refl _ w, Nat.le_refl _⟩
  | some a =>
    go_enter Tryz.func44, Tryz.ntmps44
    go_wp2
    go_ret
    exact ⟨_, rfl, World.ownsRow_made w #[] 0 (Nat.le_refl _) (Nat.zero_le _) rfl, (Below.refl _ w).alloc (Nat.le_refl _) _, Nat.le_refl _⟩
theorem c_cloneIE (x0 : Int) : PCall Tryz.prog 44 [.pv (.sl 1 [])] (fun r => r = .pv (.sl 1 [])) := by
  refine ⟨(c_cloneI [x0] ⟨by simp, by simp⟩).1, fun I β w vs hH hs ha => ?_⟩
  have hv := ha 0 _ rfl
  obtain rfl : β = [] := List.eq_nil_of_length_eq_zero hH.len
  obtain ⟨v, rfl⟩ : ∃ v, vs = #[v] := ⟨vs[0]'(by rw [hs]; decide), by
    apply Array.ext
    · exact hs
    · intro i h1 h2
      have : i = 0 := by simp at h2; omega
      subst this; rfl⟩
  have hv : ARel I [] w (.pv (.sl 1 [])) v := hv
  obtain ⟨ad, cap, rfl⟩ : ∃ ad cap, v = .slice ad 0 cap := by
    cases hv with
    | pv h =>
      have h : PRel I w (.sl 1 []) v := h
      cases h with
      | sl u hc h1 h2 => exact ⟨_, _, rfl⟩
  refine (clone_emptyI ad cap w).mono ?_
  rintro e w' ⟨v', rfl, ho, hb, hd⟩
  obtain ⟨I', β', h1, h2, h3⟩ := own_none hH ho hb hd
  exact ⟨_, _, I', β', v', rfl, ⟨rfl, rfl⟩, h1, h2, h3⟩
end Go.Proofs.YtihpjcmloecaaaaGreat.Cw
/-
  Symmetry: sorting at nothing; the counts of a model with other options in their loads.
-/
namespace Go.Proofs.YtihpjcmloecaaaaGreat.Cw
open Go Go.Cw Go.Proofs
set_option linter.unusedVariables false
set_option maxRecDepth 100000
set_option maxHeartbeats 8000000
theorem sortK_nil {P : Program} {ρ : Go.Shelf.Ren} (L : Go.Proofs.SlLaysF0.n6 P ρ) (he : Enterable P (ρ.f 6)) (z : Nat) (g : FuncId) (caps : List PV) : PCall P (ρ.f 6) [.pv (.sl z []), .pv (.fn g caps)] (fun r => r = .tup []) := by
  refine ⟨he, fun I β w vs hH hvs hrel => ?_⟩
  obtain ⟨v0, v1, rfl⟩ : ∃ v0 v1, vs = #[v0, v1] := by
    match vs, hvs with
    | ⟨[v, v']⟩, _ => exact ⟨v, v', rfl⟩
  have h0 := hrel 0 _ rfl
  cases h0 with
  | pv h0 =>
    change PRel I w (.sl z []) v0 at h0
    obtain ⟨ad, cap, rfl⟩ : ∃ ad cap, v0 = .slice ad 0 cap := by
      cases h0 with
      | sl u hc h1 h2 => exact ⟨_, _, rfl⟩
    refine (Go.Proofs.AnyF.slices_SortFunc_none L ad cap v1 w).mono ?_
    rintro e w' ⟨rfl, rfl⟩
    exact ⟨_, [], I, β, _, rfl, ⟨rfl, rfl⟩, hH, .tup rfl (fun j c hj => by simp at hj), Evo.refl I β w'⟩
theorem c_sortLE : PCall Tryz.prog 114 [.pv (.sl 3 (List.map Load.row [])), .pv (.fn 115 [])] (fun r => r = .tup []) :=
  sortK_nil layLoad (ent Tryz.func114 (by kernel_rfl) (by kernel_rfl)) 3 115 []
theorem c_sortCE : PCall Tryz.prog 116 [.pv (.sl 4 (List.map Count.row [])), .pv (.fn 88 [])] (fun r => r = .tup []) :=
  sortK_nil layCount (ent Tryz.func116 (by kernel_rfl) (by kernel_rfl)) 4 88 []
def optL (g : Load → Int) (l : Load) : Load := ⟨l.cls, g l, l.weight⟩
def optC (g : Load → Int) (c : Count) : Count := ⟨c.rule, srt ldC (c.loads.map (optL g)), c.most, c.penalty⟩
def countsV (g : Load → Int) (l : List Count) : List Count := srt ctC (l.map (optC g))
theorem tk_snoc {α : Type} {l : List α} {i : Nat} {x : α} (h : l[i]? = some x) : l.take (i + 1) = l.take i ++ [x] := by
  rw [List.take_add_one, h]; rfl
theorem half_at {α : Type} {f : α → α} {l : List α} {i : Nat} {x : α} (h : l[i]? = some x) : ((l.take i).map f ++ l.drop i)[i]? = some x := by
  have hi := (List.getElem?_eq_some_iff.1 h).1
  rw [List.getElem?_append_right (by simp; omega)]
  simp only [List.length_map, List.length_take]
  rw [List.getElem?_drop, ← h]
  congr 1; omega
theorem half_set {α : Type} {f : α → α} {l : List α} {i : Nat} {x : α} (h : l[i]? = some x) : ((l.take i).map f ++ l.drop i).set i (f x) = (l.take (i + 1)).map f ++ l.drop (i + 1) := by
  have hi := (List.getElem?_eq_some_iff.1 h).1
  rw [tk_snoc h, List.map_append, List.append_assoc]
  rw [List.set_append_right _ _ (by simp; omega)]
  rw [drop_at h]
  have : i - ((l.take i).map f).length = 0 := by simp; omega
  rw [this]; rfl
theorem half_all {α : Type} {f : α → α} {l : List α} : (l.take l.length).map f ++ l.drop l.length = l.map f := by rw [List.take_length, List.drop_length, List.append_nil]
theorem c_counts0 (m : Model) (f : FuncId) (caps : List PV) (g : Load → Int) (hn : m.counts.length ≤ 1000) (hl : ∀ c ∈ m.counts, c.loads.length ≤ 1000)
    (hf : ∀ c ∈ m.counts, ∀ l ∈ c.loads, PCall Tryz.prog f (ag l.row :: pvs caps) (fun r => r = vint .i64 (g l))) : PCall Tryz.prog 83 [ag m.cells, .pv (.fn f caps)] (fun r => Leq r (.pv (.sl 4 ((countsV g m.counts).map Count.row)))) := by
  obtain ⟨MC, MP, CC, MR⟩ := m
  dsimp only at hn hl hf
  have hcc := c_cloneC CC
  have hce : PCall Tryz.prog 113 [.pv (.sl 4 (List.map Count.row []))] (fun r => r = .pv (.sl 4 (List.map Count.row []))) := c_cloneCE ⟨0, [], 0, 0⟩
  refine acall_of tok mixed 50 rfl (fn := Tryz.f83) (c := Tryz.f83.body.getD .skip) (by kernel_rfl) (by kernel_rfl) (by kernel_rfl) rfl 0 rfl ?_
  rcases CC with _ | ⟨c0, C⟩
  · repeat' (first | ((change vcFun _ _ _ _ _; refine call_frz rfl (by repeat' (first | trivial | refine And.intro ?_ ?_ | (show 0 + _ ≤ List.length _; simp))) ALeL.refl hce ?_; rintro _ rfl)) | refine o1 ?_ | refine o2 ?_ | refine k1 ?_ | refine k2 ?_ | refine k4 ?_ | refine eqv_len_map ?_ | fail)
    refine loop_at (fun u : Nat => [(15, vint .i64 0)]) (fun _ => []) (fun _ => True) (fun _ => 0) 0 trivial (by repeat' (first | exact trivial | exact ⟨_, rfl, ALe.refl⟩ | refine And.intro ?_ ?_)) (by repeat' (first | exact trivial | exact rfl | refine And.intro ?_ ?_)) ?_
    intro _ _
    repeat' (first | refine o1 ?_ | refine o2 ?_ | refine k1 ?_ | refine k2 ?_ | refine k3 ?_ | refine k7 ?_ | refine k8 ?_ | refine And.intro ?_ ?_ | (intro h; first | exact Bool.noConfusion h | exact nz _ h | exact nl h | (simp at h; done) | (simp at h; first | (exfalso; omega) | skip) | skip) | (change retOk _ _ _ _; refine ret_pure rfl trivial ?_) | (change vcFun _ _ _ _ _; refine call_eq rfl (by repeat' (first | trivial | refine And.intro ?_ ?_ | (show 0 + _ ≤ List.length _; simp))) ALeL.refl (c_sortCE) rfl ?_) | fail)
    exact ⟨by rw [show countsV g [] = [] by simp [countsV, srt]]; exact ALe.refl⟩
  · have hcc := hcc ⟨by simp, by simp at hn ⊢; omega⟩
    generalize hCC : c0 :: C = CC at *
    have hne : CC ≠ [] := by subst hCC; simp
    have hpos : 0 < CC.length := List.length_pos_iff.2 hne
    repeat' (first | ((change vcFun _ _ _ _ _; refine call_obj [] [] [.pv (.sl 4 (CC.map Count.row))] rfl trivial rfl hcc ?_; rintro r H' ⟨rfl, rfl⟩)) | refine o1 ?_ | refine o2 ?_ | refine k1 ?_ | refine k2 ?_ | refine k4 ?_ | refine And.intro ?_ ?_ | exact Nat.le_of_ble_eq_true rfl | fail)
    refine loop_for (fun i : Nat => [(1, .pv (.fn f caps)), (5, .ms 1 4 0 CC.length), (13, .ms 1 4 0 CC.length), (14, vint .i64 CC.length), (15, vint .i64 i)]) (fun i => [none, some ⟨78, 4, false, .p (((CC.take i).map (optC g) ++ CC.drop i).map Count.row)⟩]) (fun i => i ≤ CC.length) (fun i => CC.length - i) 0 (Nat.zero_le _) ?_ ?_
    · exact back [0, 1] rfl rfl (by repeat' (first | exact trivial | exact rfl | refine And.intro ?_ ?_)) (by repeat' (first | exact trivial | exact rfl | refine And.intro ?_ ?_))
    intro i hi
    rcases Nat.lt_or_ge i CC.length with hlt | hge
    · obtain ⟨c, hc⟩ := getE hlt
      have hcr : (((CC.take i).map (optC g) ++ CC.drop i).map Count.row)[i]? = some c.row := at_map (half_at hc)
      have hnx := half_set (f := optC g) hc
      have hll := hl c (List.mem_of_getElem? hc)
      have hg := hf c (List.mem_of_getElem? hc)
      obtain ⟨cr, cl, cm, cp⟩ := c
      dsimp only at hll hg
      have hcl := c_cloneL cl
      have hcle : PCall Tryz.prog 96 [.pv (.sl 3 (List.map Load.row []))] (fun r => r = .pv (.sl 3 (List.map Load.row []))) := c_cloneLE ⟨0, 0, 0⟩
      rcases cl with _ | ⟨l0, L0⟩
      · have hset : (((CC.take i).map (optC g) ++ CC.drop i).map Count.row).set i (splice 1 [.sl 3 (List.map Load.row [])] (Count.row ⟨cr, [], cm, cp⟩)) = ((CC.take (i + 1)).map (optC g) ++ CC.drop (i + 1)).map Count.row := by
          have h0 : (optC g ⟨cr, [], cm, cp⟩).row = Count.row ⟨cr, [], cm, cp⟩ := by unfold optC; rw [show srt ldC (List.map (optL g) []) = [] by simp [srt]]
          rw [← hnx, List.map_set, h0]; rfl
        repeat' (first | (refine idx_ms i rfl hlt ?_) | (refine ⟨_, hcr, ?_⟩) | ((change vcFun _ _ _ _ _; refine call_frz rfl (by repeat' (first | trivial | refine And.intro ?_ ?_ | (show 0 + _ ≤ List.length _; simp))) ALeL.refl hcle ?_; rintro _ rfl)) | refine o1 ?_ | refine o2 ?_ | refine k1 ?_ | refine k2 ?_ | refine k3 ?_ | refine k4 ?_ | refine k6 ?_ | refine And.intro ?_ ?_ | (intro h; first | exact Bool.noConfusion h | exact nz _ h | exact nl h | (simp at h; done) | (simp at h; first | (exfalso; omega) | skip) | skip) | exact (by kernel_rfl : drawOk _ _ = true) | refine eqv_len_map ?_ | refine eqv_zero ?_ | fail)
        refine loop_for (fun u : Nat => [(1, .pv (.fn f caps)), (5, .ms 1 4 0 CC.length), (13, .ms 1 4 0 CC.length), (14, vint .i64 CC.length), (15, vint .i64 i), (6, vint .i64 i), (8, .pv (.sl 3 (List.map Load.row []))), (24, vint .i64 0), (25, vint .i64 0)]) (fun _ => [none, some ⟨78, 4, false, .p (((CC.take i).map (optC g) ++ CC.drop i).map Count.row)⟩]) (fun _ => True) (fun _ => 0) 0 trivial (back [0, 1] rfl rfl (by repeat' (first | exact trivial | exact rfl | refine And.intro ?_ ?_)) (by repeat' (first | exact trivial | exact rfl | refine And.intro ?_ ?_))) ?_
        intro _ _
        repeat' (first | (refine idx_ms i rfl hlt ?_) | (refine ⟨_, hcr, (Nat.le_of_ble_eq_true rfl), ?_⟩) | (refine eqv_to _ hset ?_) | refine o1 ?_ | refine o2 ?_ | refine k1 ?_ | refine k2 ?_ | refine k3 ?_ | refine k8 ?_ | refine And.intro ?_ ?_ | (intro h; first | exact Bool.noConfusion h | exact nz _ h | exact nl h | (simp at h; done) | (simp at h; first | (exfalso; omega) | skip) | skip) | refine eqv_zero ?_ | refine eqv_wrap (by omega) (by omega) ?_ | (change vcFun _ _ _ _ _; refine call_eq rfl (by repeat' (first | trivial | refine And.intro ?_ ?_ | (show 0 + _ ≤ List.length _; simp))) ALeL.refl (c_sortLE) rfl ?_) | fail)
        exact ⟨i + 1, by omega, by omega, back [0, 1] rfl rfl (by repeat' (first | exact trivial | exact rfl | refine And.intro ?_ ?_)) (by repeat' (first | exact trivial | exact rfl | refine And.intro ?_ ?_))⟩
      · have hcl := hcl ⟨by simp, by omega⟩
        generalize hLL : l0 :: L0 = LL at *
        have hne2 : LL ≠ [] := by subst hLL; simp
        repeat' (first | (refine idx_ms i rfl hlt ?_) | (refine ⟨_, hcr, ?_⟩) | ((change vcFun _ _ _ _ _; refine call_obj [] [] [.pv (.sl 3 (LL.map Load.row))] rfl trivial rfl hcl ?_; rintro r H' ⟨rfl, rfl⟩)) | refine o1 ?_ | refine o2 ?_ | refine k1 ?_ | refine k2 ?_ | refine k3 ?_ | refine k4 ?_ | refine k6 ?_ | refine And.intro ?_ ?_ | (intro h; first | exact Bool.noConfusion h | exact nz _ h | exact nl h | (simp at h; done) | (simp at h; first | (exfalso; omega) | skip) | skip) | exact Nat.le_of_ble_eq_true rfl | exact (by kernel_rfl : drawOk _ _ = true) | refine eqv_zero ?_ | fail)
        refine loop_for (fun k : Nat => [(1, .pv (.fn f caps)), (5, .ms 1 4 0 CC.length), (13, .ms 1 4 0 CC.length), (14, vint .i64 CC.length), (15, vint .i64 i), (6, vint .i64 i), (8, .ms 2 3 0 LL.length), (24, vint .i64 LL.length), (25, vint .i64 k)]) (fun k => [none, some ⟨78, 4, false, .p (((CC.take i).map (optC g) ++ CC.drop i).map Count.row)⟩, some ⟨102, 3, false, .p (((LL.take k).map (optL g) ++ LL.drop k).map Load.row)⟩]) (fun k => k ≤ LL.length) (fun k => LL.length - k) 0 (Nat.zero_le _) (back [0, 1, 3] rfl rfl (by repeat' (first | exact trivial | exact rfl | refine And.intro ?_ ?_)) (by repeat' (first | exact trivial | exact rfl | refine And.intro ?_ ?_))) ?_
        intro k hk
        rcases Nat.lt_or_ge k LL.length with hlk | hgk
        · obtain ⟨x, hx⟩ := getE hlk
          have hxr : (((LL.take k).map (optL g) ++ LL.drop k).map Load.row)[k]? = some x.row := at_map (half_at hx)
          have hnk := half_set (f := optL g) hx
          have hgx := hg x (List.mem_of_getElem? hx)
          have hsetk : (((LL.take k).map (optL g) ++ LL.drop k).map Load.row).set k (splice 1 [ei (g x)] x.row) = ((LL.take (k + 1)).map (optL g) ++ LL.drop (k + 1)).map Load.row := by rw [← hnk, List.map_set]; rfl
          repeat' (first | (refine idx_ms k rfl hlk ?_) | (refine ⟨_, hxr, (Nat.le_of_ble_eq_true rfl), ?_⟩) | (refine ⟨_, hxr, ?_⟩) | (refine eqv_to _ hsetk ?_) | refine o1 ?_ | refine o2 ?_ | refine k1 ?_ | refine k2 ?_ | refine k3 ?_ | refine k4 ?_ | refine k6 ?_ | refine And.intro ?_ ?_ | (intro h; first | exact Bool.noConfusion h | exact nz _ h | exact nl h | (simp at h; done) | (simp at h; first | (exfalso; omega) | skip) | skip) | refine eqv_zero ?_ | refine eqv_wrap (by omega) (by omega) ?_ | (change vcFun _ _ (_ ++ pvs _) _ _; refine call_cap rfl (by repeat' (first | trivial | refine And.intro ?_ ?_ | (show 0 + _ ≤ List.length _; simp))) (hgx) rfl ?_) | fail)
          exact ⟨k + 1, by omega, by omega, back [0, 1, 2] rfl rfl (by repeat' (first | exact trivial | exact rfl | refine And.intro ?_ ?_)) (by repeat' (first | exact trivial | exact rfl | refine And.intro ?_ ?_))⟩
        · obtain rfl : k = LL.length := by omega
          rw [half_all]
          have hso := c_sortLoads (LL.map (optL g)) (by simpa using hne2) (by rw [List.length_map]; omega)
          rw [List.length_map] at hso
          have hm : (List.map pvs (((CC.take i).map (optC g) ++ CC.drop i).map Count.row)).set i (splice (0 + 1) (cellsOf (AV.ms 2 3 0 LL.length)) (pvs (Count.row ⟨cr, LL, cm, cp⟩))) = (List.map pvs (((CC.take i).map (optC g) ++ CC.drop i).map Count.row)).set i ((pvs (Count.row ⟨cr, LL, cm, cp⟩)).set 1 (AV.ms 2 3 0 LL.length)) := rfl
          have hfin : (((CC.take i).map (optC g) ++ CC.drop i).map Count.row).set i ((Count.row ⟨cr, LL, cm, cp⟩).set 1 (.sl 3 ((srt ldC (LL.map (optL g))).map Load.row))) = ((CC.take (i + 1)).map (optC g) ++ CC.drop (i + 1)).map Count.row := by rw [← hnx, List.map_set]; rfl
          repeat' (first | ((change vcFun _ _ _ _ _; refine call_one (i := 2) rfl (fun _ _ => rfl) [.ms 0 3 0 LL.length, .pv (.fn 115 [])] rfl hso ?_; rintro r H' ⟨rfl, rfl⟩; refine ⟨_, rfl, fun _ _ => rfl, fun _ _ => rfl, ?_⟩)) | (refine idx_ms i rfl hlt ?_) | (refine ⟨_, hcr, (Nat.le_of_ble_eq_true rfl), ?_⟩) | (refine eqv_to _ hm ?_) | refine o1 ?_ | refine o2 ?_ | refine k1 ?_ | refine k2 ?_ | refine k3 ?_ | refine k8 ?_ | refine And.intro ?_ ?_ | (intro h; first | exact Bool.noConfusion h | exact nz _ h | exact nl h | (simp at h; done) | (simp at h; first | (exfalso; omega) | skip) | skip) | refine eqv_zero ?_ | refine eqv_wrap (by omega) (by omega) ?_ | fail)
          generalize ((CC.take i).map (optC g) ++ CC.drop i).map Count.row = XS at *
          refine ⟨i + 1, by omega, by omega, Ghost.trans (Ghost.shutK (i := 1) (k := i) (c := 1) (r := Count.row ⟨cr, LL, cm, cp⟩) (xs := XS) (x := .ms 2 3 0 LL.length) (p' := .sl 3 ((srt ldC (LL.map (optL g))).map Load.row)) rfl hcr rfl (by simp [Count.row]) rfl ?_ ?_ (ALe.pv (whole_le (f := Load.row) (by rw [srt_len, List.length_map]; exact Nat.le_refl _)))) ?_⟩
          · show 0 + LL.length ≤ _
            rw [List.length_map, srt_len, List.length_map]; omega
          · show ¬ (1 ∈ ([2] : List Nat))
            decide
          · rw [hfin]
            exact back [0, 1] rfl rfl (by repeat' (first | exact trivial | exact rfl | refine And.intro ?_ ?_)) (by repeat' (first | exact trivial | exact rfl | refine And.intro ?_ ?_))
    · obtain rfl : i = CC.length := by omega
      rw [half_all]
      have hso := c_sortCounts (CC.map (optC g)) (by simpa using hne) (by rw [List.length_map]; omega) (fun c hc => by
        obtain ⟨d, hd, rfl⟩ := List.mem_map.1 hc
        have := hl d hd
        show (srt ldC (d.loads.map (optL g))).length ≤ _
        rw [srt_len, List.length_map]; omega)
      rw [List.length_map] at hso
      repeat' (first | ((change vcFun _ _ _ _ _; refine call_one (i := 1) rfl (fun _ _ => rfl) [.ms 0 4 0 CC.length, .pv (.fn 88 [])] rfl hso ?_; rintro r H' ⟨rfl, rfl⟩; refine ⟨_, rfl, fun _ _ => rfl, fun _ _ => rfl, ?_⟩)) | refine o1 ?_ | refine o2 ?_ | refine k1 ?_ | refine k2 ?_ | refine k3 ?_ | refine k7 ?_ | refine k8 ?_ | refine And.intro ?_ ?_ | (intro h; first | exact Bool.noConfusion h | exact nz _ h | exact nl h | (simp at h; done) | (simp at h; first | (exfalso; omega) | skip) | skip) | fail)
      refine ret_pure rfl (by repeat' (first | (show 0 + _ ≤ List.length _; simp [srt_len]))) ?_
      exact ⟨ALe.pv (whole_le (f := Count.row) (l := countsV g CC) (by unfold countsV; rw [srt_len, List.length_map]; exact Nat.le_refl _))⟩
theorem c_counts (m : Model) (f : FuncId) (caps : List PV) (g : Load → Int) (hn : m.counts.length ≤ 1000) (hl : ∀ c ∈ m.counts, c.loads.length ≤ 1000)
    (hf : ∀ c ∈ m.counts, ∀ l ∈ c.loads, PCall Tryz.prog f (ag l.row :: pvs caps) (fun r => r = vint .i64 (g l))) : PCall Tryz.prog 83 [ag m.cells, .pv (.fn f caps)] (fun r => r = .pv (.sl 4 ((countsV g m.counts).map Count.row))) :=
  (c_counts0 m f caps g hn hl hf).weak fun r k => ⟨_, k.le, rfl⟩
end Go.Proofs.YtihpjcmloecaaaaGreat.Cw
/-
  Symmetry: pairs of even models (printed by tools/mkse2.py).
-/
namespace Go.Proofs.YtihpjcmloecaaaaGreat.Cw
open Go Go.Cw Go.Proofs
set_option linter.unusedVariables false
set_option maxRecDepth 100000
set_option maxHeartbeats 8000000
theorem call_mc {t : List Int} {k k2 : Nat} {n : Int} {H : Heap} {K : AV → Heap → Prop} (h : MCost t k n k2) (hi : H[0]? = some (dice t k)) (hK : K (vint .i64 n) (H.set 0 (dice t k2))) : vcFun Tryz.prog 59 [.ptr 0 2 0 0] H K := by
  refine call_one (i := 0) hi (fun _ _ => rfl) [.ptr 0 2 0 0] rfl h ?_
  rintro r H' ⟨rfl, rfl⟩
  exact ⟨_, rfl, fun _ _ => rfl, fun _ _ => rfl, hK⟩
theorem day_of {l : List Opt} (h : ∀ o ∈ l, o.place.time.day = 0 ∨ o.place.time.day = 1) {u : Nat} {o : Opt} (ho : l[u]? = some o) : o.place.time.day = 0 ∨ o.place.time.day = 1 := h o (List.mem_of_getElem? ho)
def evE (a1 a2 a3 a4 : Int) (o q : Opt) : Int :=
  if o.place.room = q.place.room ∧ 0 ≤ o.place.room then (if o.place.time.day = 0 then (if q.place.time.day = 0 then 1099511627776 else a1) else (if q.place.time.day = 0 then a2 else 1099511627776))
  else (if o.place.time.day = 0 then (if q.place.time.day = 0 then a3 else 0) else (if q.place.time.day = 0 then a4 else 0))
def evT (E : Opt → Opt → Int) (x y : List Opt) : List Int := x.flatMap fun o => y.map (E o)
theorem evT_len {E : Opt → Opt → Int} {y : List Opt} : ∀ x : List Opt, (evT E x y).length = x.length * y.length
  | [] => by simp [evT]
  | o :: x => by
    have := evT_len (E := E) (y := y) x
    unfold evT at *
    rw [List.flatMap_cons, List.length_append, this, List.length_map, List.length_cons, Nat.add_mul]; omega
theorem evT_snoc {E : Opt → Opt → Int} {x y : List Opt} {u : Nat} {o : Opt} (h : x[u]? = some o) : evT E (x.take (u + 1)) y = evT E (x.take u) y ++ y.map (E o) := by
  unfold evT; rw [tk_snoc h, List.flatMap_append]; simp
theorem evT_ok {a1 a2 a3 a4 : Int} {x y : List Opt} (p1 : a1 = 0 ∨ priceP a1) (p2 : a2 = 0 ∨ priceP a2) (p3 : a3 = 0 ∨ priceP a3) (p4 : a4 = 0 ∨ priceP a4) : ∀ n ∈ evT (evE a1 a2 a3 a4) x y, n = 0 ∨ priceP n := fun n hn => by
  obtain ⟨o, _, ho⟩ := List.mem_flatMap.1 hn
  obtain ⟨q, _, rfl⟩ := List.mem_map.1 ho
  have pf : (1099511627776 : Int) = 0 ∨ priceP 1099511627776 := .inr (.inr rfl)
  unfold evE
  repeat' split
  all_goals first | assumption | exact .inl rfl
theorem c_evenPairN (t : List Int) (k : Nat) (ht : t.length ≤ 400) (hk : k ≤ t.length) (C : List (List Opt))  (i j : Nat) (x y : List Opt) (hx : C[i]? = some x) (hy : C[j]? = some y) (hxl : x.length ≤ 7) (hyl : y.length ≤ 7)
    (hdx : ∀ o ∈ x, o.place.time.day = 0 ∨ o.place.time.day = 1) (hdy : ∀ o ∈ y, o.place.time.day = 0 ∨ o.place.time.day = 1) :
    ∃ (TT : List Int) (k' : Nat), k' ≤ t.length ∧ TT.length = x.length * y.length ∧ (∀ n ∈ TT, n = 0 ∨ priceP n) ∧ ACall Tryz.prog 60 [.ptr 0 2 0 0, .agg [.pv (.sl 1 (C.map optsRow)), nilA, nilA, vint .i64 2], vint .i64 i, vint .i64 j] [dice t k]
      (fun r H' => r = ag (Pair.row ⟨i, j, 1, TT⟩) ∧ H' = [dice t k']) := by
  obtain ⟨a1, ka, p1, p2, g1⟩ := mcost_ex t k ht hk
  obtain ⟨a2, kb, p3, p4, g2⟩ := mcost_ex t ka ht p2
  obtain ⟨a3, kc, p5, p6, g3⟩ := mcost_ex t kb ht p4
  obtain ⟨a4, kd, p7, p8, g4⟩ := mcost_ex t kc ht p6
  have hxy : x.length * y.length ≤ 49 := Nat.mul_le_mul hxl hyl
  refine ⟨evT (evE a1 a2 a3 a4) x y, kd, p8, evT_len x, evT_ok p1 p3 p5 p7, ?_⟩
  have hTl : ∀ u, u ≤ x.length → (evT (evE a1 a2 a3 a4) (x.take u) y).length = u * y.length := fun u hu => by rw [evT_len, List.length_take, Nat.min_eq_left hu]
  generalize hE : evE a1 a2 a3 a4 = E at *
  refine acall_of tok mixed 103 rfl (fn := Tryz.f60) (c := Tryz.f60.body.getD .skip) (by kernel_rfl) (by kernel_rfl) (by kernel_rfl) rfl 1 rfl ?_
  repeat' (first | ((change vcFun _ _ _ _ _; refine call_mc g1 rfl ?_)) | ((change vcFun _ _ _ _ _; refine call_mc g2 rfl ?_)) | ((change vcFun _ _ _ _ _; refine call_mc g3 rfl ?_)) | ((change vcFun _ _ _ _ _; refine call_mc g4 rfl ?_)) | refine o1 ?_ | refine o2 ?_ | refine k1 ?_ | refine k2 ?_ | refine k4 ?_ | refine And.intro ?_ ?_ | exact (by kernel_rfl : drawOk _ _ = true) | fail)
  refine loop_for (fun u : Nat => [(2, vint .i64 i), (3, vint .i64 j), (5, .ptr 1 4 0 0), (8, .ptr 2 4 0 0), (9, .ptr 3 4 0 0), (10, .ptr 4 4 0 0), (11, .ptr 5 4 0 0), (12, vint .i64 u)])
    (fun u => [dice t kd, some ⟨29, 4, false, .box [.pv (.sl 1 (C.map optsRow)), nilA, nilA, vint .i64 2]⟩, some ⟨72, 4, false, .box [vint .i64 0, vint .i64 0, vint .i64 0, nilA]⟩, some ⟨72, 4, false, .box [vint .i64 i, vint .i64 j, vint .i64 1, slP 6 1 ((evT E (x.take u) y).map intRow)]⟩, some ⟨136, 4, false, .box [vint .i64 1099511627776, vint .i64 a1, vint .i64 a2, vint .i64 1099511627776]⟩, some ⟨136, 4, false, .box [vint .i64 a3, vint .i64 0, vint .i64 a4, vint .i64 0]⟩, obP 3 1 ((evT E (x.take u) y).map intRow)])
    (fun u => u ≤ x.length) (fun u => x.length - u) 0 (Nat.zero_le _) ?_ ?_
  · exact back [0, 1, 2, 3, 4, 5, 6] rfl rfl (by repeat' (first | exact trivial | exact rfl | refine kept_bx ren_bx3 rfl ?_ | refine And.intro ?_ ?_)) (by repeat' (first | exact trivial | exact rfl | refine And.intro ?_ ?_))
  intro u hu
  have hTB := hTl u hu
  rcases Nat.lt_or_ge u x.length with hul | hug
  · obtain ⟨o, ho⟩ := getE hul
    have hdo := day_of hdx ho
    have hnx := evT_snoc (E := E) (y := y) ho
    generalize evT E (x.take u) y = TB at *
    repeat' (first | (refine fh_ob ?_) | (refine idx_sl (k := i) (at_map hx) rfl ?_) | refine o1 ?_ | refine o2 ?_ | refine k1 ?_ | refine k2 ?_ | refine k3 ?_ | refine k4 ?_ | refine k6 ?_ | refine And.intro ?_ ?_ | (intro h; first | exact Bool.noConfusion h | exact nz _ h | exact nl h | (simp at h; done) | (simp at h; first | (exfalso; omega) | skip) | skip) | refine eqv_len_map ?_ | fail)
    refine loop_for (fun v : Nat => [(2, vint .i64 i), (3, vint .i64 j), (5, .ptr 1 4 0 0), (8, .ptr 2 4 0 0), (9, .ptr 3 4 0 0), (10, .ptr 4 4 0 0), (11, .ptr 5 4 0 0), (12, vint .i64 u), (13, vint .i64 v)])
      (fun v => [dice t kd, some ⟨29, 4, false, .box [.pv (.sl 1 (C.map optsRow)), nilA, nilA, vint .i64 2]⟩, some ⟨72, 4, false, .box [vint .i64 0, vint .i64 0, vint .i64 0, nilA]⟩, some ⟨72, 4, false, .box [vint .i64 i, vint .i64 j, vint .i64 1, slP 6 1 ((TB ++ (y.take v).map (E o)).map intRow)]⟩, some ⟨136, 4, false, .box [vint .i64 1099511627776, vint .i64 a1, vint .i64 a2, vint .i64 1099511627776]⟩, some ⟨136, 4, false, .box [vint .i64 a3, vint .i64 0, vint .i64 a4, vint .i64 0]⟩, obP 3 1 ((TB ++ (y.take v).map (E o)).map intRow)])
      (fun v => v ≤ y.length) (fun v => y.length - v) 0 (Nat.zero_le _) ?_ ?_
    · rw [show TB ++ (y.take 0).map (E o) = TB by simp]
      exact back [0, 1, 2, 3, 4, 5, 6] rfl rfl (by repeat' (first | exact trivial | exact rfl | refine kept_ob rfl ?_ | refine kept_bx ren_bx3 rfl ?_ | refine And.intro ?_ ?_)) (by repeat' (first | exact trivial | exact rfl | refine And.intro ?_ ?_))
    intro v hv
    have hul2 : (u + 1) * y.length ≤ x.length * y.length := Nat.mul_le_mul_right _ hul
    rw [Nat.add_mul] at hul2
    rcases Nat.lt_or_ge v y.length with hvl | hvg
    · obtain ⟨q, hq⟩ := getE hvl
      have hdq := day_of hdy hq
      have hKl : (TB ++ (y.take v).map (E o)).length ≤ 49 := by rw [List.length_append, List.length_map, List.length_take]; omega
      have hstep : TB ++ (y.take (v + 1)).map (E o) = (TB ++ (y.take v).map (E o)) ++ [E o q] := by rw [tk_snoc hq, List.map_append, List.append_assoc]; rfl
      generalize TB ++ (y.take v).map (E o) = KS at *
      have hb1 : ((KS.map intRow).length + 1) * 8 ≤ 140737488355328 := by rw [List.length_map]; omega
      have hb2 : (KS.map intRow).length + 1 ≤ 9223372036854775807 := by rw [List.length_map]; omega
      rcases hdo with hdo | hdo
      · rcases hdq with hdq | hdq
        · repeat' (first | (refine fv_sl ?_) | (refine fh_ob ?_) | (refine idx_sl (k := i) (at_map hx) rfl ?_) | (refine idx_sl (k := j) (at_map hy) rfl ?_) | (refine idx_sl (k := u) (at_map ho) rfl ?_) | (refine idx_sl (k := v) (at_map hq) rfl ?_) | (refine eqv_to (0 : Int) (by rw [hdo]; decide) ?_) | (refine eqv_to (0 : Int) (by rw [hdq]; decide) ?_) | (refine ⟨0, rfl, (by decide), ?_⟩) | ((refine o_appD rfl rfl rfl rfl rfl rfl rfl rfl rfl rfl rfl hb1 hb2 ?_)) | refine o1 ?_ | refine o2 ?_ | refine k1 ?_ | refine k2 ?_ | refine k3 ?_ | refine k4 ?_ | refine k6 ?_ | refine And.intro ?_ ?_ | refine o3 ?_ | refine o4 ?_ | (intro h; first | exact Bool.noConfusion h | exact nz _ h | exact nl h | (simp at h; done) | (simp at h; first | (exfalso; omega) | skip) | skip) | exact (by kernel_rfl : drawOk _ _ = true) | refine eqv_len_map ?_ | refine eqv_wrap (by omega) (by omega) ?_ | fail)
          all_goals first
            | (refine ⟨v + 1, by omega, by omega, ?_⟩
               have hv : E o q = 1099511627776 := by rw [← hE]; unfold evE; rw [if_pos (by omega), if_pos hdo, if_pos hdq]
               rw [hstep, hv, map_snoc, sl_app, ob_app]
               refine back [0, 1, 2, 3, 4, 5, 10] rfl rfl ?_ ?_
               · repeat' (first | exact trivial | exact rfl | refine And.intro ?_ ?_)
               · repeat' (first | exact trivial | exact rfl | refine And.intro ?_ ?_))
            | (refine ⟨v + 1, by omega, by omega, ?_⟩
               have hv : E o q = a3 := by rw [← hE]; unfold evE; rw [if_neg (by omega), if_pos hdo, if_pos hdq]
               rw [hstep, hv, map_snoc, sl_app, ob_app]
               refine back [0, 1, 2, 3, 4, 5, 10] rfl rfl ?_ ?_
               · repeat' (first | exact trivial | exact rfl | refine And.intro ?_ ?_)
               · repeat' (first | exact trivial | exact rfl | refine And.intro ?_ ?_))
        · repeat' (first | (refine fv_sl ?_) | (refine fh_ob ?_) | (refine idx_sl (k := i) (at_map hx) rfl ?_) | (refine idx_sl (k := j) (at_map hy) rfl ?_) | (refine idx_sl (k := u) (at_map ho) rfl ?_) | (refine idx_sl (k := v) (at_map hq) rfl ?_) | (refine eqv_to (0 : Int) (by rw [hdo]; decide) ?_) | (refine eqv_to (1 : Int) (by rw [hdq]; decide) ?_) | (refine ⟨1, rfl, (by decide), ?_⟩) | ((refine o_appD rfl rfl rfl rfl rfl rfl rfl rfl rfl rfl rfl hb1 hb2 ?_)) | refine o1 ?_ | refine o2 ?_ | refine k1 ?_ | refine k2 ?_ | refine k3 ?_ | refine k4 ?_ | refine k6 ?_ | refine And.intro ?_ ?_ | refine o3 ?_ | refine o4 ?_ | (intro h; first | exact Bool.noConfusion h | exact nz _ h | exact nl h | (simp at h; done) | (simp at h; first | (exfalso; omega) | skip) | skip) | exact (by kernel_rfl : drawOk _ _ = true) | refine eqv_len_map ?_ | refine eqv_wrap (by omega) (by omega) ?_ | fail)
          all_goals first
            | (refine ⟨v + 1, by omega, by omega, ?_⟩
               have hv : E o q = a1 := by rw [← hE]; unfold evE; rw [if_pos (by omega), if_pos hdo, if_neg (by omega)]
               rw [hstep, hv, map_snoc, sl_app, ob_app]
               refine back [0, 1, 2, 3, 4, 5, 10] rfl rfl ?_ ?_
               · repeat' (first | exact trivial | exact rfl | refine And.intro ?_ ?_)
               · repeat' (first | exact trivial | exact rfl | refine And.intro ?_ ?_))
            | (refine ⟨v + 1, by omega, by omega, ?_⟩
               have hv : E o q = 0 := by rw [← hE]; unfold evE; rw [if_neg (by omega), if_pos hdo, if_neg (by omega)]
               rw [hstep, hv, map_snoc, sl_app, ob_app]
               refine back [0, 1, 2, 3, 4, 5, 10] rfl rfl ?_ ?_
               · repeat' (first | exact trivial | exact rfl | refine And.intro ?_ ?_)
               · repeat' (first | exact trivial | exact rfl | refine And.intro ?_ ?_))
      · rcases hdq with hdq | hdq
        · repeat' (first | (refine fv_sl ?_) | (refine fh_ob ?_) | (refine idx_sl (k := i) (at_map hx) rfl ?_) | (refine idx_sl (k := j) (at_map hy) rfl ?_) | (refine idx_sl (k := u) (at_map ho) rfl ?_) | (refine idx_sl (k := v) (at_map hq) rfl ?_) | (refine eqv_to (2 : Int) (by rw [hdo]; decide) ?_) | (refine eqv_to (2 : Int) (by rw [hdq]; decide) ?_) | (refine ⟨2, rfl, (by decide), ?_⟩) | ((refine o_appD rfl rfl rfl rfl rfl rfl rfl rfl rfl rfl rfl hb1 hb2 ?_)) | refine o1 ?_ | refine o2 ?_ | refine k1 ?_ | refine k2 ?_ | refine k3 ?_ | refine k4 ?_ | refine k6 ?_ | refine And.intro ?_ ?_ | refine o3 ?_ | refine o4 ?_ | (intro h; first | exact Bool.noConfusion h | exact nz _ h | exact nl h | (simp at h; done) | (simp at h; first | (exfalso; omega) | skip) | skip) | exact (by kernel_rfl : drawOk _ _ = true) | refine eqv_len_map ?_ | refine eqv_wrap (by omega) (by omega) ?_ | fail)
          all_goals first
            | (refine ⟨v + 1, by omega, by omega, ?_⟩
               have hv : E o q = a2 := by rw [← hE]; unfold evE; rw [if_pos (by omega), if_neg (by omega), if_pos hdq]
               rw [hstep, hv, map_snoc, sl_app, ob_app]
               refine back [0, 1, 2, 3, 4, 5, 10] rfl rfl ?_ ?_
               · repeat' (first | exact trivial | exact rfl | refine And.intro ?_ ?_)
               · repeat' (first | exact trivial | exact rfl | refine And.intro ?_ ?_))
            | (refine ⟨v + 1, by omega, by omega, ?_⟩
               have hv : E o q = a4 := by rw [← hE]; unfold evE; rw [if_neg (by omega), if_neg (by omega), if_pos hdq]
               rw [hstep, hv, map_snoc, sl_app, ob_app]
               refine back [0, 1, 2, 3, 4, 5, 10] rfl rfl ?_ ?_
               · repeat' (first | exact trivial | exact rfl | refine And.intro ?_ ?_)
               · repeat' (first | exact trivial | exact rfl | refine And.intro ?_ ?_))
        · repeat' (first | (refine fv_sl ?_) | (refine fh_ob ?_) | (refine idx_sl (k := i) (at_map hx) rfl ?_) | (refine idx_sl (k := j) (at_map hy) rfl ?_) | (refine idx_sl (k := u) (at_map ho) rfl ?_) | (refine idx_sl (k := v) (at_map hq) rfl ?_) | (refine eqv_to (2 : Int) (by rw [hdo]; decide) ?_) | (refine eqv_to (3 : Int) (by rw [hdq]; decide) ?_) | (refine ⟨3, rfl, (by decide), ?_⟩) | ((refine o_appD rfl rfl rfl rfl rfl rfl rfl rfl rfl rfl rfl hb1 hb2 ?_)) | refine o1 ?_ | refine o2 ?_ | refine k1 ?_ | refine k2 ?_ | refine k3 ?_ | refine k4 ?_ | refine k6 ?_ | refine And.intro ?_ ?_ | refine o3 ?_ | refine o4 ?_ | (intro h; first | exact Bool.noConfusion h | exact nz _ h | exact nl h | (simp at h; done) | (simp at h; first | (exfalso; omega) | skip) | skip) | exact (by kernel_rfl : drawOk _ _ = true) | refine eqv_len_map ?_ | refine eqv_wrap (by omega) (by omega) ?_ | fail)
          all_goals first
            | (refine ⟨v + 1, by omega, by omega, ?_⟩
               have hv : E o q = 1099511627776 := by rw [← hE]; unfold evE; rw [if_pos (by omega), if_neg (by omega), if_neg (by omega)]
               rw [hstep, hv, map_snoc, sl_app, ob_app]
               refine back [0, 1, 2, 3, 4, 5, 10] rfl rfl ?_ ?_
               · repeat' (first | exact trivial | exact rfl | refine And.intro ?_ ?_)
               · repeat' (first | exact trivial | exact rfl | refine And.intro ?_ ?_))
            | (refine ⟨v + 1, by omega, by omega, ?_⟩
               have hv : E o q = 0 := by rw [← hE]; unfold evE; rw [if_neg (by omega), if_neg (by omega), if_neg (by omega)]
               rw [hstep, hv, map_snoc, sl_app, ob_app]
               refine back [0, 1, 2, 3, 4, 5, 10] rfl rfl ?_ ?_
               · repeat' (first | exact trivial | exact rfl | refine And.intro ?_ ?_)
               · repeat' (first | exact trivial | exact rfl | refine And.intro ?_ ?_))
    · obtain rfl : v = y.length := by omega
      rw [List.take_length, ← hnx]
      repeat' (first | (refine fh_ob ?_) | (refine idx_sl (k := j) (at_map hy) rfl ?_) | refine o1 ?_ | refine o2 ?_ | refine k1 ?_ | refine k2 ?_ | refine k3 ?_ | refine k8 ?_ | refine And.intro ?_ ?_ | (intro h; first | exact Bool.noConfusion h | exact nz _ h | exact nl h | (simp at h; done) | (simp at h; first | (exfalso; omega) | skip) | skip) | refine eqv_len_map ?_ | refine eqv_wrap (by omega) (by omega) ?_ | fail)
      all_goals first
        | exact ⟨u + 1, by omega, by omega, back [0, 1, 2, 3, 4, 5, 6] rfl rfl (by repeat' (first | exact trivial | exact rfl | refine kept_ob rfl ?_ | refine kept_bx ren_bx3 rfl ?_ | refine And.intro ?_ ?_)) (by repeat' (first | exact trivial | exact rfl | refine And.intro ?_ ?_))⟩
  · obtain rfl : u = x.length := by omega
    rw [List.take_length] at hTB ⊢
    generalize evT E x y = TB at *
    refine forceH_in ?_
    refine ghost_seq (Γ' := [(2, vint .i64 i), (3, vint .i64 j), (5, .ptr 1 4 0 0), (8, .ptr 2 4 0 0), (9, .ptr 3 4 0 0), (12, vint .i64 x.length)]) (H' := [dice t kd, some ⟨29, 4, false, .box [.pv (.sl 1 (C.map optsRow)), nilA, nilA, vint .i64 2]⟩, some ⟨72, 4, false, .box [vint .i64 0, vint .i64 0, vint .i64 0, nilA]⟩, some ⟨72, 4, false, .box [vint .i64 i, vint .i64 j, vint .i64 1, .pv (.sl 1 (TB.map intRow))]⟩]) (Ghost.shut_sl (i := 3) (c := 3) (id := 6) rfl rfl rfl (by decide) fun H' hl h2 hH => back [0, 1, 2, 3] rfl rfl ⟨hH 0 (by decide) (by decide), hH 1 (by decide) (by decide), hH 2 (by decide) (by decide), h2, trivial⟩ (by repeat' (first | exact trivial | exact rfl | refine And.intro ?_ ?_))) ?_
    repeat' (first | (refine idx_sl (k := i) (at_map hx) rfl ?_) | refine o1 ?_ | refine o2 ?_ | refine k1 ?_ | refine k2 ?_ | refine k3 ?_ | refine k7 ?_ | refine k8 ?_ | refine And.intro ?_ ?_ | (intro h; first | exact Bool.noConfusion h | exact nz _ h | exact nl h | (simp at h; done) | (simp at h; first | (exfalso; omega) | skip) | skip) | refine eqv_len_map ?_ | fail)
    exact ret_obj [0] [dice t kd] rfl rfl (by repeat' (first | exact trivial | exact rfl | refine And.intro ?_ ?_)) (r' := ag (Pair.row ⟨i, j, 1, TB⟩)) rfl ⟨rfl, rfl⟩
theorem c_evenPairC (t : List Int) (k : Nat) (ht : t.length ≤ 400) (hk : k ≤ t.length) (C : List (List Opt)) (np : Nat) (rows : List (List PV)) (i j : Nat) (x y : List Opt) (hx : C[i]? = some x) (hy : C[j]? = some y) (hxl : x.length ≤ 7) (hyl : y.length ≤ 7)
    (hdx : ∀ o ∈ x, o.place.time.day = 0 ∨ o.place.time.day = 1) (hdy : ∀ o ∈ y, o.place.time.day = 0 ∨ o.place.time.day = 1) :
    ∃ (TT : List Int) (k' : Nat), k' ≤ t.length ∧ TT.length = x.length * y.length ∧ (∀ n ∈ TT, n = 0 ∨ priceP n) ∧ ACall Tryz.prog 60 [.ptr 0 2 0 0, .agg [.pv (.sl 1 (C.map optsRow)), .ms 1 4 0 np, nilA, vint .i64 2], vint .i64 i, vint .i64 j] [dice t k, some ⟨72, 4, false, .p rows⟩]
      (fun r H' => r = ag (Pair.row ⟨i, j, 1, TT⟩) ∧ H' = [dice t k', some ⟨72, 4, false, .p rows⟩]) := by
  obtain ⟨a1, ka, p1, p2, g1⟩ := mcost_ex t k ht hk
  obtain ⟨a2, kb, p3, p4, g2⟩ := mcost_ex t ka ht p2
  obtain ⟨a3, kc, p5, p6, g3⟩ := mcost_ex t kb ht p4
  obtain ⟨a4, kd, p7, p8, g4⟩ := mcost_ex t kc ht p6
  have hxy : x.length * y.length ≤ 49 := Nat.mul_le_mul hxl hyl
  refine ⟨evT (evE a1 a2 a3 a4) x y, kd, p8, evT_len x, evT_ok p1 p3 p5 p7, ?_⟩
  have hTl : ∀ u, u ≤ x.length → (evT (evE a1 a2 a3 a4) (x.take u) y).length = u * y.length := fun u hu => by rw [evT_len, List.length_take, Nat.min_eq_left hu]
  generalize hE : evE a1 a2 a3 a4 = E at *
  refine acall_of tok mixed 103 rfl (fn := Tryz.f60) (c := Tryz.f60.body.getD .skip) (by kernel_rfl) (by kernel_rfl) (by kernel_rfl) rfl 2 rfl ?_
  repeat' (first | ((change vcFun _ _ _ _ _; refine call_mc g1 rfl ?_)) | ((change vcFun _ _ _ _ _; refine call_mc g2 rfl ?_)) | ((change vcFun _ _ _ _ _; refine call_mc g3 rfl ?_)) | ((change vcFun _ _ _ _ _; refine call_mc g4 rfl ?_)) | refine o1 ?_ | refine o2 ?_ | refine k1 ?_ | refine k2 ?_ | refine k4 ?_ | refine And.intro ?_ ?_ | exact (by kernel_rfl : drawOk _ _ = true) | fail)
  refine loop_for (fun u : Nat => [(2, vint .i64 i), (3, vint .i64 j), (5, .ptr 2 4 0 0), (8, .ptr 3 4 0 0), (9, .ptr 4 4 0 0), (10, .ptr 5 4 0 0), (11, .ptr 6 4 0 0), (12, vint .i64 u)])
    (fun u => [dice t kd, some ⟨72, 4, false, .p rows⟩, some ⟨29, 4, false, .box [.pv (.sl 1 (C.map optsRow)), .ms 1 4 0 np, nilA, vint .i64 2]⟩, some ⟨72, 4, false, .box [vint .i64 0, vint .i64 0, vint .i64 0, nilA]⟩, some ⟨72, 4, false, .box [vint .i64 i, vint .i64 j, vint .i64 1, slP 7 1 ((evT E (x.take u) y).map intRow)]⟩, some ⟨136, 4, false, .box [vint .i64 1099511627776, vint .i64 a1, vint .i64 a2, vint .i64 1099511627776]⟩, some ⟨136, 4, false, .box [vint .i64 a3, vint .i64 0, vint .i64 a4, vint .i64 0]⟩, obP 3 1 ((evT E (x.take u) y).map intRow)])
    (fun u => u ≤ x.length) (fun u => x.length - u) 0 (Nat.zero_le _) ?_ ?_
  · exact back [0, 1, 2, 3, 4, 5, 6, 7] rfl rfl (by repeat' (first | exact trivial | exact rfl | refine kept_bx ren_bx3 rfl ?_ | refine And.intro ?_ ?_)) (by repeat' (first | exact trivial | exact rfl | refine And.intro ?_ ?_))
  intro u hu
  have hTB := hTl u hu
  rcases Nat.lt_or_ge u x.length with hul | hug
  · obtain ⟨o, ho⟩ := getE hul
    have hdo := day_of hdx ho
    have hnx := evT_snoc (E := E) (y := y) ho
    generalize evT E (x.take u) y = TB at *
    repeat' (first | (refine fh_ob ?_) | (refine idx_sl (k := i) (at_map hx) rfl ?_) | refine o1 ?_ | refine o2 ?_ | refine k1 ?_ | refine k2 ?_ | refine k3 ?_ | refine k4 ?_ | refine k6 ?_ | refine And.intro ?_ ?_ | (intro h; first | exact Bool.noConfusion h | exact nz _ h | exact nl h | (simp at h; done) | (simp at h; first | (exfalso; omega) | skip) | skip) | refine eqv_len_map ?_ | fail)
    refine loop_for (fun v : Nat => [(2, vint .i64 i), (3, vint .i64 j), (5, .ptr 2 4 0 0), (8, .ptr 3 4 0 0), (9, .ptr 4 4 0 0), (10, .ptr 5 4 0 0), (11, .ptr 6 4 0 0), (12, vint .i64 u), (13, vint .i64 v)])
      (fun v => [dice t kd, some ⟨72, 4, false, .p rows⟩, some ⟨29, 4, false, .box [.pv (.sl 1 (C.map optsRow)), .ms 1 4 0 np, nilA, vint .i64 2]⟩, some ⟨72, 4, false, .box [vint .i64 0, vint .i64 0, vint .i64 0, nilA]⟩, some ⟨72, 4, false, .box [vint .i64 i, vint .i64 j, vint .i64 1, slP 7 1 ((TB ++ (y.take v).map (E o)).map intRow)]⟩, some ⟨136, 4, false, .box [vint .i64 1099511627776, vint .i64 a1, vint .i64 a2, vint .i64 1099511627776]⟩, some ⟨136, 4, false, .box [vint .i64 a3, vint .i64 0, vint .i64 a4, vint .i64 0]⟩, obP 3 1 ((TB ++ (y.take v).map (E o)).map intRow)])
      (fun v => v ≤ y.length) (fun v => y.length - v) 0 (Nat.zero_le _) ?_ ?_
    · rw [show TB ++ (y.take 0).map (E o) = TB by simp]
      exact back [0, 1, 2, 3, 4, 5, 6, 7] rfl rfl (by repeat' (first | exact trivial | exact rfl | refine kept_ob rfl ?_ | refine kept_bx ren_bx3 rfl ?_ | refine And.intro ?_ ?_)) (by repeat' (first | exact trivial | exact rfl | refine And.intro ?_ ?_))
    intro v hv
    have hul2 : (u + 1) * y.length ≤ x.length * y.length := Nat.mul_le_mul_right _ hul
    rw [Nat.add_mul] at hul2
    rcases Nat.lt_or_ge v y.length with hvl | hvg
    · obtain ⟨q, hq⟩ := getE hvl
      have hdq := day_of hdy hq
      have hKl : (TB ++ (y.take v).map (E o)).length ≤ 49 := by rw [List.length_append, List.length_map, List.length_take]; omega
      have hstep : TB ++ (y.take (v + 1)).map (E o) = (TB ++ (y.take v).map (E o)) ++ [E o q] := by rw [tk_snoc hq, List.map_append, List.append_assoc]; rfl
      generalize TB ++ (y.take v).map (E o) = KS at *
      have hb1 : ((KS.map intRow).length + 1) * 8 ≤ 140737488355328 := by rw [List.length_map]; omega
      have hb2 : (KS.map intRow).length + 1 ≤ 9223372036854775807 := by rw [List.length_map]; omega
      rcases hdo with hdo | hdo
      · rcases hdq with hdq | hdq
        · repeat' (first | (refine fv_sl ?_) | (refine fh_ob ?_) | (refine idx_sl (k := i) (at_map hx) rfl ?_) | (refine idx_sl (k := j) (at_map hy) rfl ?_) | (refine idx_sl (k := u) (at_map ho) rfl ?_) | (refine idx_sl (k := v) (at_map hq) rfl ?_) | (refine eqv_to (0 : Int) (by rw [hdo]; decide) ?_) | (refine eqv_to (0 : Int) (by rw [hdq]; decide) ?_) | (refine ⟨0, rfl, (by decide), ?_⟩) | ((refine o_appD rfl rfl rfl rfl rfl rfl rfl rfl rfl rfl rfl hb1 hb2 ?_)) | refine o1 ?_ | refine o2 ?_ | refine k1 ?_ | refine k2 ?_ | refine k3 ?_ | refine k4 ?_ | refine k6 ?_ | refine And.intro ?_ ?_ | refine o3 ?_ | refine o4 ?_ | (intro h; first | exact Bool.noConfusion h | exact nz _ h | exact nl h | (simp at h; done) | (simp at h; first | (exfalso; omega) | skip) | skip) | exact (by kernel_rfl : drawOk _ _ = true) | refine eqv_len_map ?_ | refine eqv_wrap (by omega) (by omega) ?_ | fail)
          all_goals first
            | (refine ⟨v + 1, by omega, by omega, ?_⟩
               have hv : E o q = 1099511627776 := by rw [← hE]; unfold evE; rw [if_pos (by omega), if_pos hdo, if_pos hdq]
               rw [hstep, hv, map_snoc, sl_app, ob_app]
               refine back [0, 1, 2, 3, 4, 5, 6, 11] rfl rfl ?_ ?_
               · repeat' (first | exact trivial | exact rfl | refine And.intro ?_ ?_)
               · repeat' (first | exact trivial | exact rfl | refine And.intro ?_ ?_))
            | (refine ⟨v + 1, by omega, by omega, ?_⟩
               have hv : E o q = a3 := by rw [← hE]; unfold evE; rw [if_neg (by omega), if_pos hdo, if_pos hdq]
               rw [hstep, hv, map_snoc, sl_app, ob_app]
               refine back [0, 1, 2, 3, 4, 5, 6, 11] rfl rfl ?_ ?_
               · repeat' (first | exact trivial | exact rfl | refine And.intro ?_ ?_)
               · repeat' (first | exact trivial | exact rfl | refine And.intro ?_ ?_))
        · repeat' (first | (refine fv_sl ?_) | (refine fh_ob ?_) | (refine idx_sl (k := i) (at_map hx) rfl ?_) | (refine idx_sl (k := j) (at_map hy) rfl ?_) | (refine idx_sl (k := u) (at_map ho) rfl ?_) | (refine idx_sl (k := v) (at_map hq) rfl ?_) | (refine eqv_to (0 : Int) (by rw [hdo]; decide) ?_) | (refine eqv_to (1 : Int) (by rw [hdq]; decide) ?_) | (refine ⟨1, rfl, (by decide), ?_⟩) | ((refine o_appD rfl rfl rfl rfl rfl rfl rfl rfl rfl rfl rfl hb1 hb2 ?_)) | refine o1 ?_ | refine o2 ?_ | refine k1 ?_ | refine k2 ?_ | refine k3 ?_ | refine k4 ?_ | refine k6 ?_ | refine And.intro ?_ ?_ | refine o3 ?_ | refine o4 ?_ | (intro h; first | exact Bool.noConfusion h | exact nz _ h | exact nl h | (simp at h; done) | (simp at h; first | (exfalso; omega) | skip) | skip) | exact (by kernel_rfl : drawOk _ _ = true) | refine eqv_len_map ?_ | refine eqv_wrap (by omega) (by omega) ?_ | fail)
          all_goals first
            | (refine ⟨v + 1, by omega, by omega, ?_⟩
               have hv : E o q = a1 := by rw [← hE]; unfold evE; rw [if_pos (by omega), if_pos hdo, if_neg (by omega)]
               rw [hstep, hv, map_snoc, sl_app, ob_app]
               refine back [0, 1, 2, 3, 4, 5, 6, 11] rfl rfl ?_ ?_
               · repeat' (first | exact trivial | exact rfl | refine And.intro ?_ ?_)
               · repeat' (first | exact trivial | exact rfl | refine And.intro ?_ ?_))
            | (refine ⟨v + 1, by omega, by omega, ?_⟩
               have hv : E o q = 0 := by rw [← hE]; unfold evE; rw [if_neg (by omega), if_pos hdo, if_neg (by omega)]
               rw [hstep, hv, map_snoc, sl_app, ob_app]
               refine back [0, 1, 2, 3, 4, 5, 6, 11] rfl rfl ?_ ?_
               · repeat' (first | exact trivial | exact rfl | refine And.intro ?_ ?_)
               · repeat' (first | exact trivial | exact rfl | refine And.intro ?_ ?_))
      · rcases hdq with hdq | hdq
        · repeat' (first | (refine fv_sl ?_) | (refine fh_ob ?_) | (refine idx_sl (k := i) (at_map hx) rfl ?_) | (refine idx_sl (k := j) (at_map hy) rfl ?_) | (refine idx_sl (k := u) (at_map ho) rfl ?_) | (refine idx_sl (k := v) (at_map hq) rfl ?_) | (refine eqv_to (2 : Int) (by rw [hdo]; decide) ?_) | (refine eqv_to (2 : Int) (by rw [hdq]; decide) ?_) | (refine ⟨2, rfl, (by decide), ?_⟩) | ((refine o_appD rfl rfl rfl rfl rfl rfl rfl rfl rfl rfl rfl hb1 hb2 ?_)) | refine o1 ?_ | refine o2 ?_ | refine k1 ?_ | refine k2 ?_ | refine k3 ?_ | refine k4 ?_ | refine k6 ?_ | refine And.intro ?_ ?_ | refine o3 ?_ | refine o4 ?_ | (intro h; first | exact Bool.noConfusion h | exact nz _ h | exact nl h | (simp at h; done) | (simp at h; first | (exfalso; omega) | skip) | skip) | exact (by kernel_rfl : drawOk _ _ = true) | refine eqv_len_map ?_ | refine eqv_wrap (by omega) (by omega) ?_ | fail)
          all_goals first
            | (refine ⟨v + 1, by omega, by omega, ?_⟩
               have hv : E o q = a2 := by rw [← hE]; unfold evE; rw [if_pos (by omega), if_neg (by omega), if_pos hdq]
               rw [hstep, hv, map_snoc, sl_app, ob_app]
               refine back [0, 1, 2, 3, 4, 5, 6, 11] rfl rfl ?_ ?_
               · repeat' (first | exact trivial | exact rfl | refine And.intro ?_ ?_)
               · repeat' (first | exact trivial | exact rfl | refine And.intro ?_ ?_))
            | (refine ⟨v + 1, by omega, by omega, ?_⟩
               have hv : E o q = a4 := by rw [← hE]; unfold evE; rw [if_neg (by omega), if_neg (by omega), if_pos hdq]
               rw [hstep, hv, map_snoc, sl_app, ob_app]
               refine back [0, 1, 2, 3, 4, 5, 6, 11] rfl rfl ?_ ?_
               · repeat' (first | exact trivial | exact rfl | refine And.intro ?_ ?_)
               · repeat' (first | exact trivial | exact rfl | refine And.intro ?_ ?_))
        · repeat' (first | (refine fv_sl ?_) | (refine fh_ob ?_) | (refine idx_sl (k := i) (at_map hx) rfl ?_) | (refine idx_sl (k := j) (at_map hy) rfl ?_) | (refine idx_sl (k := u) (at_map ho) rfl ?_) | (refine idx_sl (k := v) (at_map hq) rfl ?_) | (refine eqv_to (2 : Int) (by rw [hdo]; decide) ?_) | (refine eqv_to (3 : Int) (by rw [hdq]; decide) ?_) | (refine ⟨3, rfl, (by decide), ?_⟩) | ((refine o_appD rfl rfl rfl rfl rfl rfl rfl rfl rfl rfl rfl hb1 hb2 ?_)) | refine o1 ?_ | refine o2 ?_ | refine k1 ?_ | refine k2 ?_ | refine k3 ?_ | refine k4 ?_ | refine k6 ?_ | refine And.intro ?_ ?_ | refine o3 ?_ | refine o4 ?_ | (intro h; first | exact Bool.noConfusion h | exact nz _ h | exact nl h | (simp at h; done) | (simp at h; first | (exfalso; omega) | skip) | skip) | exact (by kernel_rfl : drawOk _ _ = true) | refine eqv_len_map ?_ | refine eqv_wrap (by omega) (by omega) ?_ | fail)
          all_goals first
            | (refine ⟨v + 1, by omega, by omega, ?_⟩
               have hv : E o q = 1099511627776 := by rw [← hE]; unfold evE; rw [if_pos (by omega), if_neg (by omega), if_neg (by omega)]
               rw [hstep, hv, map_snoc, sl_app, ob_app]
               refine back [0, 1, 2, 3, 4, 5, 6, 11] rfl rfl ?_ ?_
               · repeat' (first | exact trivial | exact rfl | refine And.intro ?_ ?_)
               · repeat' (first | exact trivial | exact rfl | refine And.intro ?_ ?_))
            | (refine ⟨v + 1, by omega, by omega, ?_⟩
               have hv : E o q = 0 := by rw [← hE]; unfold evE; rw [if_neg (by omega), if_neg (by omega), if_neg (by omega)]
               rw [hstep, hv, map_snoc, sl_app, ob_app]
               refine back [0, 1, 2, 3, 4, 5, 6, 11] rfl rfl ?_ ?_
               · repeat' (first | exact trivial | exact rfl | refine And.intro ?_ ?_)
               · repeat' (first | exact trivial | exact rfl | refine And.intro ?_ ?_))
    · obtain rfl : v = y.length := by omega
      rw [List.take_length, ← hnx]
      repeat' (first | (refine fh_ob ?_) | (refine idx_sl (k := j) (at_map hy) rfl ?_) | refine o1 ?_ | refine o2 ?_ | refine k1 ?_ | refine k2 ?_ | refine k3 ?_ | refine k8 ?_ | refine And.intro ?_ ?_ | (intro h; first | exact Bool.noConfusion h | exact nz _ h | exact nl h | (simp at h; done) | (simp at h; first | (exfalso; omega) | skip) | skip) | refine eqv_len_map ?_ | refine eqv_wrap (by omega) (by omega) ?_ | fail)
      all_goals first
        | exact ⟨u + 1, by omega, by omega, back [0, 1, 2, 3, 4, 5, 6, 7] rfl rfl (by repeat' (first | exact trivial | exact rfl | refine kept_ob rfl ?_ | refine kept_bx ren_bx3 rfl ?_ | refine And.intro ?_ ?_)) (by repeat' (first | exact trivial | exact rfl | refine And.intro ?_ ?_))⟩
  · obtain rfl : u = x.length := by omega
    rw [List.take_length] at hTB ⊢
    generalize evT E x y = TB at *
    refine forceH_in ?_
    refine ghost_seq (Γ' := [(2, vint .i64 i), (3, vint .i64 j), (5, .ptr 2 4 0 0), (8, .ptr 3 4 0 0), (9, .ptr 4 4 0 0), (12, vint .i64 x.length)]) (H' := [dice t kd, some ⟨72, 4, false, .p rows⟩, some ⟨29, 4, false, .box [.pv (.sl 1 (C.map optsRow)), .ms 1 4 0 np, nilA, vint .i64 2]⟩, some ⟨72, 4, false, .box [vint .i64 0, vint .i64 0, vint .i64 0, nilA]⟩, some ⟨72, 4, false, .box [vint .i64 i, vint .i64 j, vint .i64 1, .pv (.sl 1 (TB.map intRow))]⟩]) (Ghost.shut_sl (i := 4) (c := 3) (id := 7) rfl rfl rfl (by decide) fun H' hl h2 hH => back [0, 1, 2, 3, 4] rfl rfl ⟨hH 0 (by decide) (by decide), hH 1 (by decide) (by decide), hH 2 (by decide) (by decide), hH 3 (by decide) (by decide), h2, trivial⟩ (by repeat' (first | exact trivial | exact rfl | refine And.intro ?_ ?_))) ?_
    repeat' (first | (refine idx_sl (k := i) (at_map hx) rfl ?_) | refine o1 ?_ | refine o2 ?_ | refine k1 ?_ | refine k2 ?_ | refine k3 ?_ | refine k7 ?_ | refine k8 ?_ | refine And.intro ?_ ?_ | (intro h; first | exact Bool.noConfusion h | exact nz _ h | exact nl h | (simp at h; done) | (simp at h; first | (exfalso; omega) | skip) | skip) | refine eqv_len_map ?_ | fail)
    exact ret_obj [0, 1] [dice t kd, some ⟨72, 4, false, .p rows⟩] rfl rfl (by repeat' (first | exact trivial | exact rfl | refine And.intro ?_ ?_)) (r' := ag (Pair.row ⟨i, j, 1, TB⟩)) rfl ⟨rfl, rfl⟩
end Go.Proofs.YtihpjcmloecaaaaGreat.Cw
/-
  Symmetry, plain: loads put in one by one.
-/
namespace Go.Proofs.YtihpjcmloecaaaaGreat.Cw
open Go Go.Cw Go.Proofs
set_option linter.unusedVariables false
structure LdQ (C : List (List Opt)) (L : List Load) (i k : Nat) : Prop where
  at_ : ∀ j, j < L.length → loadAt ⟨C, [], [], 2⟩ L j
  lt : ∀ x ∈ L, x.cls < i ∨ (x.cls = i ∧ x.opt < k)
theorem LdQ.nil {C : List (List Opt)} : LdQ C [] 0 0 := ⟨fun j h => absurd h (Nat.not_lt_zero _), fun x h => absurd h List.not_mem_nil⟩
theorem LdQ.skip {C : List (List Opt)} {L : List Load} {i k : Nat} (h : LdQ C L i k) : LdQ C L i (k + 1) := ⟨h.at_, fun x hx => by have := h.lt x hx; omega⟩
theorem LdQ.next {C : List (List Opt)} {L : List Load} {i k : Nat} (h : LdQ C L i k) : LdQ C L (i + 1) 0 := ⟨h.at_, fun x hx => by have := h.lt x hx; omega⟩
theorem LdQ.app {C : List (List Opt)} {L : List Load} {i k : Nat} {l : List Opt} {w : Int} (h : LdQ C L i k) (hl : C[i]? = some l) (hk : k < l.length) (hw : 1 ≤ w ∧ w ≤ 1000) : LdQ C (L ++ [⟨i, k, w⟩]) i (k + 1) := by
  refine ⟨fun j hj x hx => ?_, fun x hx => ?_⟩
  · simp only [List.length_append, List.length_cons, List.length_nil] at hj
    rcases Nat.lt_or_ge j L.length with h1 | h1
    · rw [List.getElem?_append_left h1] at hx
      obtain ⟨a, b, c, d⟩ := h.at_ j h1 x hx
      exact ⟨a, b, c, fun e y he hy => d e y he (by rw [List.getElem?_append_left (by omega)] at hy; exact hy)⟩
    · obtain rfl : j = L.length := by omega
      rw [List.getElem?_append_right (Nat.le_refl _)] at hx
      simp at hx; subst hx
      refine ⟨⟨by simp, by simp, l, by simpa using hl, by show (k : Int) < _; omega⟩, hw.1, hw.2, fun e y he hy => ?_⟩
      rw [List.getElem?_append_left (by omega)] at hy
      have := h.lt y (List.mem_of_getElem? hy)
      exact this
  · rcases List.mem_append.1 hx with hx | hx
    · have := h.lt x hx; omega
    · simp at hx; subst hx; exact .inr ⟨rfl, by show (k : Int) < ((k + 1 : Nat) : Int); omega⟩
end Go.Proofs.YtihpjcmloecaaaaGreat.Cw
/-
  Symmetry: the counts of even models.
-/
namespace Go.Proofs.YtihpjcmloecaaaaGreat.Cw
open Go Go.Cw Go.Proofs
set_option linter.unusedVariables false
set_option maxRecDepth 100000
set_option maxHeartbeats 8000000
def evM (C : List (List Opt)) (PR : List (List PV)) : Option AObj := some ⟨29, 4, false, .box [.pv (.sl 1 (C.map optsRow)), .pv (.sl 4 PR), .pv (.sl 4 []), vint .i64 2]⟩
def evC (s : AV) (mo pe : Int) : Option AObj := some ⟨78, 4, false, .box [vint .i64 1, s, vint .i64 mo, vint .i64 pe]⟩
theorem c_evenCounts (t : List Int) (k : Nat) (ht : t.length ≤ 400) (hk : k ≤ t.length) (C : List (List Opt)) (PR : List (List PV)) (R : Nat) (hR : R ≤ 3) (hC : C.length ≤ 5) (hl : ∀ l ∈ C, l.length ≤ 7) :
    ACall Tryz.prog 61 [.ptr 0 2 0 0, .agg [.pv (.sl 1 (C.map optsRow)), .pv (.sl 4 PR), .pv (.sl 4 []), vint .i64 2], vint .i64 R] [dice t k]
      (fun r H' => ∃ (L : List Count) (k' : Nat), k' ≤ t.length ∧ L.length ≤ 6 ∧ (∀ c ∈ L, CtQ C 2 c) ∧ r = .pv (.sl 4 (L.map Count.row)) ∧ H' = [dice t k']) := by
  refine acall_of tok mixed 102 rfl (fn := Tryz.f61) (c := Tryz.f61.body.getD .skip) (by kernel_rfl) (by kernel_rfl) (by kernel_rfl) rfl 1 rfl ?_
  repeat' (first | refine o1 ?_ | refine o2 ?_ | refine k1 ?_ | refine k2 ?_ | refine k4 ?_ | fail)
  refine loop_for (fun z : Nat × Nat × List Int => [(0, .ptr 0 2 0 0), (2, vint .i64 R), (4, .ptr 1 4 0 0), (7, slP 2 1 (z.2.2.map intRow)), (8, vint .i64 z.1)])
    (fun z => [dice t z.2.1, evM C PR, obP 3 1 (z.2.2.map intRow)])
    (fun z => z.1 ≤ C.length ∧ z.2.1 ≤ t.length ∧ z.2.2.length = z.1 ∧ ∀ n ∈ z.2.2, 1 ≤ n ∧ n ≤ 1000) (fun z => C.length - z.1) (0, k, []) ⟨Nat.zero_le _, hk, rfl, fun n h => absurd h List.not_mem_nil⟩ ?_ ?_
  · exact back [0, 1, 2] rfl rfl (by repeat' (first | exact trivial | exact rfl | refine And.intro ?_ ?_)) (by repeat' (first | exact trivial | exact rfl | refine And.intro ?_ ?_))
  rintro ⟨i, k, W⟩ ⟨hi, hk, hWl, hW⟩
  dsimp only at hi hk hWl hW ⊢
  dsimp only [evM]
  rcases Nat.lt_or_ge i C.length with hlt | hge
  · have hb1 : ((W.map intRow).length + 1) * 8 ≤ 140737488355328 := by rw [List.length_map]; omega
    have hb2 : (W.map intRow).length + 1 ≤ 9223372036854775807 := by rw [List.length_map]; omega
    repeat' (first | (refine fv_sl ?_) | (refine fh_ob ?_) | ((refine o_app rfl rfl rfl rfl rfl rfl rfl rfl rfl rfl rfl hb1 hb2 ?_)) | refine o1 ?_ | refine o2 ?_ | refine k1 ?_ | refine k2 ?_ | refine k3 ?_ | refine k4 ?_ | refine k6 ?_ | refine And.intro ?_ ?_ | (intro h; first | exact Bool.noConfusion h | exact nz _ h | exact nl h | (simp at h; done) | (simp at h; first | (exfalso; omega) | skip) | skip) | refine eqv_len_map ?_ | refine eqv_wrap (by omega) (by omega) ?_ | (change vcFun _ _ _ _ _; refine call_next 0 rfl (by assumption) (by assumption) (by omega) (by omega) ?_; intro v kq hv1 hv2 hkq) | fail)
    all_goals first
      | (exfalso; omega)
      | (refine ⟨(i + 1, kq, W ++ [1 + v]), ⟨by dsimp only; omega, hkq, by dsimp only; rw [List.length_append]; simp; omega, fun n hn => ?_⟩, by dsimp only; omega, ?_⟩
         · rcases List.mem_append.1 hn with hn | hn
           · exact hW n hn
           · simp at hn; omega
         · dsimp only
           rw [map_snoc, sl_app, ob_app]
           refine back [0, 1, 4] rfl rfl ?_ ?_
           · repeat' (first | exact trivial | exact rfl | refine And.intro ?_ ?_)
           · repeat' (first | exact trivial | exact rfl | refine And.intro ?_ ?_))
  obtain rfl : i = C.length := by omega
  have hWi : ∀ i, i < C.length → ∃ w, W[i]? = some w ∧ 1 ≤ w ∧ w ≤ 1000 := fun i hi => ⟨W[i]'(by omega), List.getElem?_eq_getElem _, hW _ (List.getElem_mem _)⟩
  refine forceH_in ?_
  refine ghost_seq (Γ' := [(0, .ptr 0 2 0 0), (2, vint .i64 R), (4, .ptr 1 4 0 0), (7, .pv (.sl 1 (W.map intRow))), (8, vint .i64 C.length)]) (H' := [dice t k, evM C PR]) (Ghost.sl (s := 7) (id := 2) rfl rfl fun H' hl hH => back [0, 1] rfl rfl ⟨hH 0 (by decide), hH 1 (by decide), trivial⟩ (by repeat' (first | exact trivial | exact rfl | refine And.intro ?_ ?_))) ?_
  dsimp only [evM]
  repeat' (first | refine o1 ?_ | refine o2 ?_ | refine k1 ?_ | refine k2 ?_ | refine k3 ?_ | refine k4 ?_ | refine k8 ?_ | refine And.intro ?_ ?_ | (intro h; first | exact Bool.noConfusion h | exact nz _ h | exact nl h | (simp at h; done) | (simp at h; first | (exfalso; omega) | skip) | skip) | refine eqv_len_map ?_ | fail)
  refine loop_for (fun z : Nat × Nat × List Count => [(0, .ptr 0 2 0 0), (2, vint .i64 R), (4, .ptr 1 4 0 0), (7, .pv (.sl 1 (W.map intRow))), (9, slP 2 4 (z.2.2.map Count.row)), (10, vint .i64 z.1)])
    (fun z => [dice t z.2.1, evM C PR, obP 78 4 (z.2.2.map Count.row)])
    (fun z => z.1 ≤ 2 ∧ z.2.1 ≤ t.length ∧ z.2.2.length ≤ z.1 * 3 ∧ ∀ c ∈ z.2.2, CtQ C 2 c) (fun z => 2 - z.1) (0, k, []) ⟨Nat.zero_le _, hk, by simp, fun n h => absurd h List.not_mem_nil⟩ ?_ ?_
  · exact back [0, 1, 2] rfl rfl (by repeat' (first | exact trivial | exact rfl | refine And.intro ?_ ?_)) (by repeat' (first | exact trivial | exact rfl | refine And.intro ?_ ?_))
  rintro ⟨tt, k, L⟩ ⟨htt, hk, hLl, hL⟩
  dsimp only at htt hk hLl hL ⊢
  dsimp only [evM]
  rcases Nat.lt_or_ge tt 2 with hlt | hge2
  · repeat' (first | ((change vcFun _ _ _ _ _; refine call_mcost 0 rfl (by assumption) (by assumption) ?_; intro cn kc hcn hkc)) | (refine fh_ob ?_) | refine o1 ?_ | refine o2 ?_ | refine k1 ?_ | refine k2 ?_ | refine k3 ?_ | refine k4 ?_ | refine k6 ?_ | refine And.intro ?_ ?_ | (intro h; first | exact Bool.noConfusion h | exact nz _ h | exact nl h | (simp at h; done) | (simp at h; first | (exfalso; omega) | skip) | skip) | (change vcFun _ _ _ _ _; refine call_next 0 rfl (by assumption) (by assumption) (by omega) (by omega) ?_; intro v kq hv1 hv2 hkq) | fail)
    have hpe := pen_ok hcn
    generalize (bif true then if cn > 1 then cn else 1 else if cn < 1 then cn else 1) = pe at *
    rename_i k0 _
    have hmo := hv1
    have hmo2 := hv2
    generalize v = mo at *
    generalize hkk : kc = k at *
    have hk := hkc
    refine loop_for (fun z : Nat × List Count => [(0, .ptr 0 2 0 0), (2, vint .i64 R), (4, .ptr 1 4 0 0), (7, .pv (.sl 1 (W.map intRow))), (9, slP 2 4 (z.2.map Count.row)), (10, vint .i64 tt), (11, vint .i64 mo), (12, vint .i64 pe), (13, vint .i64 z.1)])
      (fun z => [dice t k, evM C PR, obP 78 4 (z.2.map Count.row)])
      (fun z => z.1 ≤ R ∧ z.2.length ≤ tt * 3 + z.1 ∧ ∀ c ∈ z.2, CtQ C 2 c) (fun z => R - z.1) (0, L) ⟨Nat.zero_le _, hLl, hL⟩ ?_ ?_
    · exact back [0, 1, 2] rfl rfl (by repeat' (first | exact trivial | exact rfl | refine kept_ob rfl ?_ | refine And.intro ?_ ?_)) (by repeat' (first | exact trivial | exact rfl | exact ren_get rfl | refine And.intro ?_ ?_))
    rintro ⟨r, L⟩ ⟨hr, hLl, hL⟩
    dsimp only at hr hLl hL ⊢
    dsimp only [evM]
    rcases Nat.lt_or_ge r R with hrl | hrg
    · repeat' (first | (refine fh_ob ?_) | refine o1 ?_ | refine o2 ?_ | refine k1 ?_ | refine k2 ?_ | refine k3 ?_ | refine k4 ?_ | refine k6 ?_ | refine And.intro ?_ ?_ | (intro h; first | exact Bool.noConfusion h | exact nz _ h | exact nl h | (simp at h; done) | (simp at h; first | (exfalso; omega) | skip) | skip) | exact (by kernel_rfl : drawOk _ _ = true) | fail)
      refine loop_for (fun z : Nat × List Load => [(0, .ptr 0 2 0 0), (2, vint .i64 R), (4, .ptr 1 4 0 0), (7, .pv (.sl 1 (W.map intRow))), (9, slP 2 4 (L.map Count.row)), (10, vint .i64 tt), (11, vint .i64 mo), (12, vint .i64 pe), (13, vint .i64 r), (14, .ptr 3 4 0 0), (15, vint .i64 z.1)])
        (fun z => [dice t k, evM C PR, obP 78 4 (L.map Count.row), evC (slP 4 3 (z.2.map Load.row)) mo pe, obP 102 3 (z.2.map Load.row)])
        (fun z => z.1 ≤ C.length ∧ z.2.length ≤ z.1 * 7 ∧ LdQ C z.2 z.1 0) (fun z => C.length - z.1) (0, []) ⟨Nat.zero_le _, Nat.le_refl _, LdQ.nil⟩ ?_ ?_
      · exact back [0, 1, 2, 3, 4] rfl rfl (by repeat' (first | exact trivial | exact rfl | refine kept_ob rfl ?_ | refine kept_bx ren_bx1 rfl ?_ | refine And.intro ?_ ?_)) (by repeat' (first | exact trivial | exact rfl | exact ren_get rfl | refine And.intro ?_ ?_))
      rintro ⟨i, D⟩ ⟨hi, hDl, hD⟩
      dsimp only at hi hDl hD ⊢
      dsimp only [evM, evC]
      rcases Nat.lt_or_ge i C.length with hil | hig
      · obtain ⟨la, hla⟩ := getE hil
        have hla7 := hl la (List.mem_of_getElem? hla)
        obtain ⟨w, hw, hw1, hw2⟩ := hWi i hil
        repeat' (first | (refine fh_ob ?_) | refine o1 ?_ | refine o2 ?_ | refine k1 ?_ | refine k2 ?_ | refine k3 ?_ | refine k4 ?_ | refine k6 ?_ | refine And.intro ?_ ?_ | (intro h; first | exact Bool.noConfusion h | exact nz _ h | exact nl h | (simp at h; done) | (simp at h; first | (exfalso; omega) | skip) | skip) | refine eqv_len_map ?_ | fail)
        refine loop_for (fun z : Nat × List Load => [(0, .ptr 0 2 0 0), (2, vint .i64 R), (4, .ptr 1 4 0 0), (7, .pv (.sl 1 (W.map intRow))), (9, slP 2 4 (L.map Count.row)), (10, vint .i64 tt), (11, vint .i64 mo), (12, vint .i64 pe), (13, vint .i64 r), (14, .ptr 3 4 0 0), (15, vint .i64 i), (16, vint .i64 z.1)])
          (fun z => [dice t k, evM C PR, obP 78 4 (L.map Count.row), evC (slP 4 3 (z.2.map Load.row)) mo pe, obP 102 3 (z.2.map Load.row)])
          (fun z => z.1 ≤ la.length ∧ z.2.length ≤ i * 7 + z.1 ∧ LdQ C z.2 i z.1) (fun z => la.length - z.1) (0, D) ⟨Nat.zero_le _, hDl, hD⟩ ?_ ?_
        · exact back [0, 1, 2, 3, 4] rfl rfl (by repeat' (first | exact trivial | exact rfl | refine kept_ob rfl ?_ | refine kept_bx ren_bx1 rfl ?_ | refine And.intro ?_ ?_)) (by repeat' (first | exact trivial | exact rfl | exact ren_get rfl | refine And.intro ?_ ?_))
        rintro ⟨j, D⟩ ⟨hj, hDl, hD⟩
        dsimp only at hj hDl hD ⊢
        dsimp only [evM, evC]
        have hb1 : ((D.map Load.row).length + 1) * 24 ≤ 140737488355328 := by rw [List.length_map]; omega
        have hb2 : (D.map Load.row).length + 1 ≤ 9223372036854775807 := by rw [List.length_map]; omega
        rcases Nat.lt_or_ge j la.length with hjl | hjg
        · obtain ⟨o, ho⟩ := getE hjl
          repeat' (first | (refine fv_sl ?_) | (refine fh_ob ?_) | (refine idx_sl (k := i) (at_map hla) rfl ?_) | (refine idx_sl (k := i) (at_map hw) rfl ?_) | (refine idx_sl (k := j) (at_map ho) rfl ?_) | ((refine o_appD rfl rfl rfl rfl rfl rfl rfl rfl rfl rfl rfl hb1 hb2 ?_)) | refine o1 ?_ | refine o2 ?_ | refine k1 ?_ | refine k2 ?_ | refine k3 ?_ | refine k4 ?_ | refine k6 ?_ | refine And.intro ?_ ?_ | refine o3 ?_ | refine o4 ?_ | (intro h; first | exact Bool.noConfusion h | exact nz _ h | exact nl h | (simp at h; done) | (simp at h; first | (exfalso; omega) | skip) | skip) | exact (by kernel_rfl : drawOk _ _ = true) | refine eqv_len_map ?_ | refine eqv_wrap (by omega) (by omega) ?_ | fail)
          all_goals first
            | (exfalso; omega)
            | (refine ⟨(j + 1, D ++ [⟨i, j, w⟩]), ⟨by dsimp only; omega, by dsimp only; rw [List.length_append]; simp only [List.length_cons, List.length_nil]; omega, by dsimp only; exact hD.app hla hjl ⟨hw1, hw2⟩⟩, by dsimp only; omega, ?_⟩
               dsimp only
               rw [map_snoc, sl_app, ob_app]
               refine back [0, 1, 2, 3, 7] rfl rfl ?_ ?_
               · repeat' (first | exact trivial | exact rfl | refine kept_ob rfl ?_ | refine And.intro ?_ ?_)
               · repeat' (first | exact trivial | exact rfl | exact ren_get rfl | refine And.intro ?_ ?_))
            | (refine ⟨(j + 1, D), ⟨by dsimp only; omega, by dsimp only; omega, hD.skip⟩, by dsimp only; omega, ?_⟩
               dsimp only
               refine back [0, 1, 2, 3, 4] rfl rfl ?_ ?_
               · repeat' (first | exact trivial | exact rfl | refine kept_ob rfl ?_ | refine kept_bx ren_bx1 rfl ?_ | refine And.intro ?_ ?_)
               · repeat' (first | exact trivial | exact rfl | exact ren_get rfl | refine And.intro ?_ ?_))
        · obtain rfl : j = la.length := by omega
          repeat' (first | (refine fh_ob ?_) | (refine idx_sl (k := i) (at_map hla) rfl ?_) | refine o1 ?_ | refine o2 ?_ | refine k1 ?_ | refine k2 ?_ | refine k3 ?_ | refine k8 ?_ | refine And.intro ?_ ?_ | (intro h; first | exact Bool.noConfusion h | exact nz _ h | exact nl h | (simp at h; done) | (simp at h; first | (exfalso; omega) | skip) | skip) | refine eqv_len_map ?_ | refine eqv_wrap (by omega) (by omega) ?_ | fail)
          all_goals first
            | (exfalso; omega)
            | (refine ⟨(i + 1, D), ⟨by dsimp only; omega, by dsimp only; omega, hD.next⟩, by dsimp only; omega, ?_⟩
               dsimp only
               refine back [0, 1, 2, 3, 4] rfl rfl ?_ ?_
               · repeat' (first | exact trivial | exact rfl | refine kept_ob rfl ?_ | refine kept_bx ren_bx1 rfl ?_ | refine And.intro ?_ ?_)
               · repeat' (first | exact trivial | exact rfl | exact ren_get rfl | refine And.intro ?_ ?_))
      · obtain rfl : i = C.length := by omega
        have hb1 : ((L.map Count.row).length + 1) * 48 ≤ 140737488355328 := by rw [List.length_map]; omega
        have hb2 : (L.map Count.row).length + 1 ≤ 9223372036854775807 := by rw [List.length_map]; omega
        refine forceH_in ?_
        refine ghost_seq (Γ' := [(0, .ptr 0 2 0 0), (2, vint .i64 R), (4, .ptr 1 4 0 0), (7, .pv (.sl 1 (W.map intRow))), (9, slP 2 4 (L.map Count.row)), (10, vint .i64 tt), (11, vint .i64 mo), (12, vint .i64 pe), (13, vint .i64 r), (14, .ptr 3 4 0 0), (15, vint .i64 C.length)]) (H' := [dice t k, evM C PR, obP 78 4 (L.map Count.row), evC (.pv (.sl 3 (D.map Load.row))) mo pe]) (Ghost.shut_sl (i := 3) (c := 1) (id := 4) rfl rfl rfl (by decide) fun H' hl h2 hH => back [0, 1, 2, 3] rfl rfl ?_ ?_) ?_
        · exact ⟨hH 0 (by decide) (by decide), hH 1 (by decide) (by decide), kept_ob (hH 2 (by decide) (by decide)) ⟨h2, trivial⟩⟩
        · repeat' (first | exact trivial | exact rfl | exact ren_get rfl | refine And.intro ?_ ?_)
        dsimp only [evM, evC]
        repeat' (first | (refine fv_sl ?_) | (refine fh_ob ?_) | ((refine o_app rfl rfl rfl rfl rfl rfl rfl rfl rfl rfl rfl hb1 hb2 ?_)) | refine o1 ?_ | refine o2 ?_ | refine k1 ?_ | refine k2 ?_ | refine k3 ?_ | refine k8 ?_ | refine And.intro ?_ ?_ | (intro h; first | exact Bool.noConfusion h | exact nz _ h | exact nl h | (simp at h; done) | (simp at h; first | (exfalso; omega) | skip) | skip) | refine eqv_len_map ?_ | refine eqv_wrap (by omega) (by omega) ?_ | fail)
        all_goals first
          | (exfalso; omega)
          | (refine ⟨(r + 1, L ++ [⟨1, D, mo, pe⟩]), ⟨by dsimp only; omega, by dsimp only; rw [List.length_append]; simp only [List.length_cons, List.length_nil]; omega, by dsimp only; exact all_app hL ⟨⟨⟨by dsimp only; omega, by dsimp only; omega⟩, hmo, by dsimp only; omega, hpe, hD.at_⟩, by dsimp only; omega⟩⟩, by dsimp only; omega, ?_⟩
             dsimp only
             rw [map_snoc, sl_app, ob_app]
             refine back [0, 1, 5] rfl rfl ?_ ?_
             · repeat' (first | exact trivial | exact rfl | refine And.intro ?_ ?_)
             · repeat' (first | exact trivial | exact rfl | refine And.intro ?_ ?_))
    · obtain rfl : r = R := by omega
      repeat' (first | (refine fh_ob ?_) | refine o1 ?_ | refine o2 ?_ | refine k1 ?_ | refine k2 ?_ | refine k3 ?_ | refine k8 ?_ | refine And.intro ?_ ?_ | (intro h; first | exact Bool.noConfusion h | exact nz _ h | exact nl h | (simp at h; done) | (simp at h; first | (exfalso; omega) | skip) | skip) | refine eqv_wrap (by omega) (by omega) ?_ | fail)
      all_goals first
        | (exfalso; omega)
        | (refine ⟨(tt + 1, k, L), ⟨by dsimp only; omega, hk, by dsimp only; omega, hL⟩, by dsimp only; omega, ?_⟩
           dsimp only
           refine back [0, 1, 2] rfl rfl ?_ ?_
           · repeat' (first | exact trivial | exact rfl | refine kept_ob rfl ?_ | refine And.intro ?_ ?_)
           · repeat' (first | exact trivial | exact rfl | exact ren_get rfl | refine And.intro ?_ ?_))
  obtain rfl : tt = 2 := by omega
  refine forceH_in ?_
  refine ghost_seq (Γ' := [(0, .ptr 0 2 0 0), (9, .pv (.sl 4 (L.map Count.row))), (10, vint .i64 2)]) (H' := [dice t k]) (Ghost.sl (s := 9) (id := 2) rfl rfl fun H' hl hH => back [0] rfl rfl ⟨hH 0 (by decide), trivial⟩ (by repeat' (first | exact trivial | exact rfl | refine And.intro ?_ ?_))) ?_
  repeat' (first | refine o1 ?_ | refine o2 ?_ | refine k1 ?_ | refine k2 ?_ | refine k3 ?_ | refine k7 ?_ | refine k8 ?_ | refine And.intro ?_ ?_ | (intro h; first | exact Bool.noConfusion h | exact nz _ h | exact nl h | (simp at h; done) | (simp at h; first | (exfalso; omega) | skip) | skip) | fail)
  exact ret_obj [0] [dice t k] rfl rfl (by repeat' (first | exact trivial | exact rfl | refine And.intro ?_ ?_)) (r' := .pv (.sl 4 (L.map Count.row))) rfl ⟨L, k, hk, by omega, hL, rfl, rfl⟩
end Go.Proofs.YtihpjcmloecaaaaGreat.Cw
/-
  Made models: the walk, classes.
-/
namespace Go.Proofs.YtihpjcmloecaaaaGreat.Cw
open Go.Cw Go.Proofs
set_option linter.unusedVariables false
set_option maxRecDepth 100000
set_option maxHeartbeats 30000000
theorem stageB {Q : Exit → Slots → Heap → Prop} {rest : Code} (t : List Int) (ht : t.length ≤ 400) (a b : Int) (r : Int) (r1 : 1 ≤ r) (r2 : r ≤ 4) (k : Nat) (r0 : k ≤ t.length) (ha : 0 ≤ a ∧ a ≤ 5) (hb : 1 ≤ b ∧ b ≤ 4)
    (later : Later (∀ x : Nat × List (List Opt), (x.1 ≤ t.length ∧ x.2.length ≤ 5 ∧ ∀ l ∈ x.2, ClsQ r l) → forceH [dice t x.1, zeroM, mb (.pv (.sl 1 (x.2.map optsRow))) nilA nilA r] fun H1 => xCode Tryz.prog T 199 1 rest Q ([] ++ [(7, .ptr 2 4 0 0), (6, .ptr (0 + 1) 4 0 0), (0, .ptr 0 2 0 0), (0 + 1, vint .i64 a), (0 + 1 + 1, vint .i64 b)]) H1)) :
    xCode Tryz.prog T 199 1 (.seq codeB rest) Q ([] ++ [(7, .ptr 2 4 0 0), (6, .ptr (0 + 1) 4 0 0), (0, .ptr 0 2 0 0), (0 + 1, vint .i64 a), (0 + 1 + 1, vint .i64 b)]) [dice t k, zeroM, mb nilA nilA nilA r] := by
  show xCode _ _ _ _ (.seq (.seq (.region 2 _ _) _) rest) _ _ _
  dsimp only [zeroM, mb, nilA]
  repeat' (first | (refine join_in (a := .seq (.region 2 _ _) _) (fun _ => []) (fun x : Nat × List (List Opt) => [dice t x.1, zeroM, mb (.pv (.sl 1 (x.2.map optsRow))) nilA nilA r]) (fun x => x.1 ≤ t.length ∧ x.2.length ≤ 5 ∧ ∀ l ∈ x.2, ClsQ r l) ?_) | refine o1 ?_ | refine o2 ?_ | refine k1 ?_ | refine k2 ?_ | refine k4 ?_ | refine And.intro ?_ ?_ | refine eqv_wrap (by omega) (by omega) ?_ | (change vcFun _ _ _ _ _; refine call_next 0 rfl (by assumption) (by assumption) (by omega) (by omega) ?_; intro v kq hv1 hv2 hkq) | fail)
  · refine loop_in (fun x : Nat × Nat × List (List Opt) => [(8, vint .i64 x.1)]) (fun x => [dice t x.2.1, zeroM, mb (slP 3 1 (List.map optsRow (x.2.2))) nilA nilA r, obP 51 1 (List.map optsRow (x.2.2))]) (fun x => x.1 + x.2.2.length ≤ 5 ∧ x.2.1 ≤ t.length ∧ ∀ l ∈ x.2.2, ClsQ r l) (fun x => x.1) (v.toNat, kq, []) ⟨by simp; omega, hkq, fun l hl => absurd hl List.not_mem_nil⟩ ⟨?_, ?_⟩
    · exact back [0, 1, 2, 3] rfl rfl (by repeat' (first | exact trivial | exact rfl | refine And.intro ?_ ?_)) ⟨slot_eq rfl (congrArg (vint .i64) (by show _ = ((v.toNat : Nat) : Int); omega)), (by repeat' (first | exact trivial | exact rfl | refine And.intro ?_ ?_))⟩
    rintro ⟨n, k, cls⟩ ⟨c1, c2, c3⟩
    dsimp only at c1 c2 c3
    rcases cls with _ | ⟨c0, cls⟩
    · simp only [List.length_cons, List.length_nil] at c1
      dsimp only [slP, obP, zeroM, mb, ob5, nilA, List.map, List.length_cons, List.length_nil, List.length_map]
      rcases Nat.eq_zero_or_pos n with rfl | hn
      · repeat' (first | refine o1 ?_ | refine o2 ?_ | refine k1 ?_ | refine k2 ?_ | refine k3 ?_ | refine k8 ?_ | refine And.intro ?_ ?_ | (intro h; first | exact Bool.noConfusion h | exact nz _ h | exact nl h | (simp at h; done) | (simp at h; first | (exfalso; omega) | skip) | skip) | fail)
        exact ⟨(k, []), ⟨c2, by simp, c3⟩, Ghost.trans (Ghost.shut (i := 2) (c := 0) (x := .pv (.val (.slice none 0 0))) rfl rfl rfl (by repeat' (first | trivial)) (show ¬ (2 ∈ ([] : List Nat)) by decide) (ALe.pv PLe.nil)) (back [0, 1, 2] rfl rfl (by repeat' (first | exact trivial | exact rfl | refine And.intro ?_ ?_)) (by repeat' (first | exact trivial | exact rfl | refine And.intro ?_ ?_)))⟩
      · repeat' (first | (refine join_in (a := .seq (.region 6 _ _) _) (fun x : Nat × List Opt => [(9, .pv (.sl 6 (x.2.map Opt.row)))]) (fun x => [dice t x.1, zeroM, mb (slP 3 1 (List.map optsRow ([]))) nilA nilA r, obP 51 1 (List.map optsRow ([]))]) (fun x => x.1 ≤ t.length ∧ 1 ≤ x.2.length ∧ x.2.length ≤ 4 ∧ ∀ o ∈ x.2, OptQ r o) ?_) | refine o1 ?_ | refine o2 ?_ | refine k1 ?_ | refine k2 ?_ | refine k3 ?_ | refine k4 ?_ | refine k6 ?_ | refine And.intro ?_ ?_ | (intro h; first | exact Bool.noConfusion h | exact nz _ h | exact nl h | (simp at h; done) | (simp at h; first | (exfalso; omega) | skip) | skip) | refine eqv_wrap (by omega) (by omega) ?_ | (change vcFun _ _ _ _ _; refine call_next 0 rfl (by assumption) (by assumption) (by omega) (by omega) ?_; intro v kq hv1 hv2 hkq) | fail)
        · refine loop_in (fun x : Nat × Nat × List Opt => [(9, slP 4 6 (List.map Opt.row (x.2.2))), (10, vint .i64 x.1)]) (fun x => [dice t x.2.1, zeroM, mb (slP 3 1 (List.map optsRow ([]))) nilA nilA r, obP 51 1 (List.map optsRow ([])), obP 62 6 (List.map Opt.row (x.2.2))]) (fun x => (x.1 + x.2.2.length ≤ 4 ∧ 1 ≤ x.1 + x.2.2.length) ∧ x.2.1 ≤ t.length ∧ ∀ o ∈ x.2.2, OptQ r o) (fun x => x.1) ((1 + v).toNat, kq, []) ⟨by simp; omega, hkq, fun o ho => absurd ho List.not_mem_nil⟩ ⟨?_, ?_⟩
          · exact back [0, 1, 2, 3, 4] rfl rfl (by repeat' (first | exact trivial | exact rfl | refine And.intro ?_ ?_)) ⟨rfl, slot_eq rfl (congrArg (vint .i64) (by show _ = (((1 + v).toNat : Nat) : Int); omega)), (by repeat' (first | exact trivial | exact rfl | refine And.intro ?_ ?_))⟩
          rintro ⟨n2, k, ops⟩ ⟨g1, g2, g3⟩
          dsimp only at g1 g2 g3
          rcases ops with _ | ⟨o0, ops⟩
          · simp only [List.length_cons, List.length_nil] at g1
            dsimp only [slP, obP, zeroM, mb, ob5, nilA, List.map, List.length_cons, List.length_nil, List.length_map]
            rcases Nat.eq_zero_or_pos n2 with rfl | hn
            · repeat' (first | refine o1 ?_ | refine o2 ?_ | refine k1 ?_ | refine k2 ?_ | refine k3 ?_ | refine And.intro ?_ ?_ | (intro h; first | exact Bool.noConfusion h | exact nz _ h | exact nl h | (simp at h; done) | (simp at h; first | (exfalso; omega) | skip) | skip) | fail)
              all_goals (exfalso; omega)
            · repeat' (first | (refine join_in (a := .seq (.region 10 _ _) _) (fun _ => []) (fun x : Nat × Placed × List Charge => [dice t x.1, zeroM, mb (slP 3 1 (List.map optsRow ([]))) nilA nilA r, obP 51 1 (List.map optsRow ([])), obP 62 6 (List.map Opt.row ([])), ob5 x.2.1.time.weeks x.2.1.time.day x.2.1.time.start x.2.1.time.len x.2.1.room (.pv (.sl 2 (x.2.2.map Charge.row)))]) (fun x => x.1 ≤ t.length ∧ (∀ i, i < x.2.2.length → chargeAt (mr r) x.2.2 i) ∧ x.2.2.length ≤ 4) ?_) | refine o1 ?_ | refine o2 ?_ | refine k1 ?_ | refine k2 ?_ | refine k3 ?_ | refine k4 ?_ | refine k6 ?_ | refine And.intro ?_ ?_ | (intro h; first | exact Bool.noConfusion h | exact nz _ h | exact nl h | (simp at h; done) | (simp at h; first | (exfalso; omega) | skip) | skip) | exact (by kernel_rfl : drawOk _ _ = true) | refine eqv_wrap (by omega) (by omega) ?_ | (change vcFun _ _ _ _ _; refine call_next 0 rfl (by assumption) (by assumption) (by omega) (by omega) ?_; intro v kq hv1 hv2 hkq) | fail)
              · rename_i v1 q1 a1 a2 a3 v2 q2 b1 b2 b3 v3 q3 d1 d2 d3
                refine loop_in (fun x : Nat × Nat × List Charge => [(12, vint .i64 x.1)]) (fun x => [dice t x.2.1, zeroM, mb (slP 3 1 (List.map optsRow ([]))) nilA nilA r, obP 51 1 (List.map optsRow ([])), obP 62 6 (List.map Opt.row ([])), ob5 (1 + v1) v2 v3 1 (v - 1) (slP 6 2 (List.map Charge.row (x.2.2))), obP 98 2 (List.map Charge.row (x.2.2))]) (fun x => x.1 ≤ r.toNat ∧ x.2.1 ≤ t.length ∧ ChQ r x.1 x.2.2) (fun x => r.toNat - x.1) (0, kq, []) ⟨Nat.zero_le _, by assumption, ChQ.nil⟩ ⟨?_, ?_⟩
                · exact back [0, 1, 2, 3, 4, 5, 6] rfl rfl (by repeat' (first | exact trivial | exact rfl | refine And.intro ?_ ?_)) (by repeat' (first | exact trivial | exact rfl | refine And.intro ?_ ?_))
                rintro ⟨u, k, chs⟩ ⟨u1, u2, u3⟩
                dsimp only at u1 u2 u3
                have hu3 := u3.len
                rcases chs with _ | ⟨h0, chs⟩
                · simp only [List.length_cons, List.length_nil] at hu3
                  dsimp only [slP, obP, zeroM, mb, ob5, nilA, List.map, List.length_cons, List.length_nil, List.length_map]
                  rcases Nat.lt_or_ge u r.toNat with hu | hu
                  · repeat' (first | ((change vcFun _ _ _ _ _; refine call_cost 0 rfl (by assumption) (by assumption) ?_; intro cn kc hcn hkc)) | refine o1 ?_ | refine o2 ?_ | refine k1 ?_ | refine k2 ?_ | refine k3 ?_ | refine k4 ?_ | refine k6 ?_ | refine And.intro ?_ ?_ | (intro h; first | exact Bool.noConfusion h | exact nz _ h | exact nl h | (simp at h; done) | (simp at h; first | (exfalso; omega) | skip) | skip) | (refine (?_ : srcLen _ = rowsLen _); rfl) | exact Nat.le_of_ble_eq_true rfl | refine eqv_wrap (by omega) (by omega) ?_ | refine eqv_to _ (app_first rfl) (eqv_to 1 rfl ?_) | (change vcFun _ _ _ _ _; refine call_one2 0 rfl (by assumption) (by assumption) (by omega) (by omega) ?_; intro bq kq hkq) | fail)
                    all_goals first
                      | (exfalso; omega)
                      | skip
                    · exact ⟨(u + 1, kq, [Charge.mk (u : Int) cn]), ⟨by show u + 1 ≤ _; omega, hkq, u3.app (by omega) (hcn.elim (fun h => by omega) id)⟩, (by show _ - (u + 1) < _; omega), back [0, 1, 2, 3, 4, 5, 8] rfl rfl (by repeat' (first | exact trivial | exact rfl | refine And.intro ?_ ?_)) (by repeat' (first | exact trivial | exact rfl | refine And.intro ?_ ?_))⟩
                    · exact ⟨(u + 1, kq, []), ⟨by show u + 1 ≤ _; omega, hkq, u3.skip⟩, (by show _ - (u + 1) < _; omega), back [0, 1, 2, 3, 4, 5, 6] rfl rfl (by repeat' (first | exact trivial | exact rfl | refine And.intro ?_ ?_)) (by repeat' (first | exact trivial | exact rfl | refine And.intro ?_ ?_))⟩
                    · exact ⟨(u + 1, kc, []), ⟨by show u + 1 ≤ _; omega, hkc, u3.skip⟩, (by show _ - (u + 1) < _; omega), back [0, 1, 2, 3, 4, 5, 6] rfl rfl (by repeat' (first | exact trivial | exact rfl | refine And.intro ?_ ?_)) (by repeat' (first | exact trivial | exact rfl | refine And.intro ?_ ?_))⟩
                  · repeat' (first | refine o1 ?_ | refine o2 ?_ | refine k1 ?_ | refine k2 ?_ | refine k3 ?_ | refine k8 ?_ | refine And.intro ?_ ?_ | (intro h; first | exact Bool.noConfusion h | exact nz _ h | exact nl h | (simp at h; done) | (simp at h; first | (exfalso; omega) | skip) | skip) | fail)
                    exact ⟨(k, ⟨⟨1 + v1, v2, v3, 1⟩, v - 1⟩, []), ⟨u2, u3.at_, by simp⟩, Ghost.trans (Ghost.shut (i := 5) (c := 5) (x := .pv (.val (.slice none 0 0))) rfl rfl rfl (by repeat' (first | trivial)) (show ¬ (5 ∈ ([] : List Nat)) by decide) (ALe.pv PLe.nil)) (back [0, 1, 2, 3, 4, 5] rfl rfl (by repeat' (first | exact trivial | exact rfl | refine And.intro ?_ ?_)) (by repeat' (first | exact trivial | exact rfl | refine And.intro ?_ ?_)))⟩
                · simp only [List.length_cons, List.length_nil] at hu3
                  dsimp only [slP, obP, zeroM, mb, ob5, nilA, List.map, List.length_cons, List.length_nil, List.length_map]
                  rcases Nat.lt_or_ge u r.toNat with hu | hu
                  · repeat' (first | ((change vcFun _ _ _ _ _; refine call_cost 0 rfl (by assumption) (by assumption) ?_; intro cn kc hcn hkc)) | (refine app_consm (f := Charge.row) (Charge.mk (u : Int) cn) rfl ?_) | refine o1 ?_ | refine o2 ?_ | refine k1 ?_ | refine k2 ?_ | refine k3 ?_ | refine k4 ?_ | refine k6 ?_ | refine And.intro ?_ ?_ | (intro h; first | exact Bool.noConfusion h | exact nz _ h | exact nl h | (simp at h; done) | (simp at h; first | (exfalso; omega) | skip) | skip) | (refine (?_ : srcLen _ = rowsLen _); rfl) | refine eqv_wrap (by omega) (by omega) ?_ | (refine (?_ : _ ≤ 140737488355328); simp [rowsLen] <;> omega) | (refine (?_ : _ ≤ 9223372036854775807); simp [rowsLen] <;> omega) | (refine (?_ : _ = rowsLen _); simp [rowsLen] <;> omega) | (change vcFun _ _ _ _ _; refine call_one2 0 rfl (by assumption) (by assumption) (by omega) (by omega) ?_; intro bq kq hkq) | fail)
                    all_goals first
                      | (exfalso; omega)
                      | skip
                    · exact ⟨(u + 1, kq, h0 :: (chs ++ [Charge.mk (u : Int) cn])), ⟨by show u + 1 ≤ _; omega, hkq, u3.app (by omega) (hcn.elim (fun h => by omega) id)⟩, (by show _ - (u + 1) < _; omega), back [0, 1, 2, 3, 4, 5, 8] rfl rfl (by repeat' (first | exact trivial | exact rfl | refine And.intro ?_ ?_)) (by repeat' (first | exact trivial | exact rfl | refine And.intro ?_ ?_))⟩
                    · exact ⟨(u + 1, kq, h0 :: chs), ⟨by show u + 1 ≤ _; omega, hkq, u3.skip⟩, (by show _ - (u + 1) < _; omega), back [0, 1, 2, 3, 4, 5, 6] rfl rfl (by repeat' (first | exact trivial | exact rfl | refine And.intro ?_ ?_)) (by repeat' (first | exact trivial | exact rfl | refine And.intro ?_ ?_))⟩
                    · exact ⟨(u + 1, kc, h0 :: chs), ⟨by show u + 1 ≤ _; omega, hkc, u3.skip⟩, (by show _ - (u + 1) < _; omega), back [0, 1, 2, 3, 4, 5, 6] rfl rfl (by repeat' (first | exact trivial | exact rfl | refine And.intro ?_ ?_)) (by repeat' (first | exact trivial | exact rfl | refine And.intro ?_ ?_))⟩
                  · repeat' (first | refine o1 ?_ | refine o2 ?_ | refine k1 ?_ | refine k2 ?_ | refine k3 ?_ | refine k8 ?_ | refine And.intro ?_ ?_ | (intro h; first | exact Bool.noConfusion h | exact nz _ h | exact nl h | (simp at h; done) | (simp at h; first | (exfalso; omega) | skip) | skip) | fail)
                    exact ⟨(k, ⟨⟨1 + v1, v2, v3, 1⟩, v - 1⟩, h0 :: chs), ⟨u2, u3.at_, by simp only [List.length_cons]; omega⟩, Ghost.trans (Ghost.shut (i := 5) (c := 5) (x := .ms 6 2 0 ((List.map Charge.row chs).length + 1)) rfl rfl rfl (by repeat' (first | (show 0 + _ ≤ List.length _; simp))) (show ¬ (5 ∈ ([6] : List Nat)) by decide) (ALe.pv (whole_le (f := Charge.row) (l := h0 :: chs) (by simp)))) (back [0, 1, 2, 3, 4, 5] rfl rfl (by repeat' (first | exact trivial | exact rfl | refine And.intro ?_ ?_)) (by repeat' (first | exact trivial | exact rfl | refine And.intro ?_ ?_)))⟩
              refine ⟨?_⟩
              rintro ⟨k, pl, chs⟩ ⟨f1, f2, f3⟩
              dsimp only at f1 f2 f3
              dsimp only [slP, obP, zeroM, mb, ob5, nilA, List.map, List.length_cons, List.length_nil, List.length_map]
              repeat' (first | refine o1 ?_ | refine o2 ?_ | refine k2 ?_ | refine And.intro ?_ ?_ | (intro h; first | exact Bool.noConfusion h | exact nz _ h | exact nl h | (simp at h; done) | (simp at h; first | (exfalso; omega) | skip) | skip) | (refine (?_ : srcLen _ = rowsLen _); rfl) | exact Nat.le_of_ble_eq_true rfl | refine eqv_wrap (by omega) (by omega) ?_ | refine eqv_to _ (app_first rfl) (eqv_to 1 rfl ?_) | fail)
              exact ⟨(n2 - 1, k, [Opt.mk pl chs]), ⟨⟨by show n2 - 1 + List.length _ ≤ 4; simp; try omega, by show 1 ≤ n2 - 1 + List.length _; simp; try omega⟩, f1, all_app (l := []) g3 (show OptQ r ⟨pl, chs⟩ from ⟨f2, f3⟩)⟩, (by show n2 - 1 < n2; omega), back [0, 1, 2, 3, 7] rfl rfl (by repeat' (first | exact trivial | exact rfl | refine And.intro ?_ ?_)) ⟨rfl, slot_eq rfl (congrArg (vint .i64) (by show _ = ((n2 - 1 : Nat) : Int); omega)), (by repeat' (first | exact trivial | exact rfl | refine And.intro ?_ ?_))⟩⟩
          · simp only [List.length_cons, List.length_nil] at g1
            dsimp only [slP, obP, zeroM, mb, ob5, nilA, List.map, List.length_cons, List.length_nil, List.length_map]
            rcases Nat.eq_zero_or_pos n2 with rfl | hn
            · repeat' (first | refine o1 ?_ | refine o2 ?_ | refine k1 ?_ | refine k2 ?_ | refine k3 ?_ | refine k8 ?_ | refine And.intro ?_ ?_ | (intro h; first | exact Bool.noConfusion h | exact nz _ h | exact nl h | (simp at h; done) | (simp at h; first | (exfalso; omega) | skip) | skip) | fail)
              exact ⟨(k, o0 :: ops), ⟨g2, by simp; try omega, by simp only [List.length_cons]; omega, g3⟩, Ghost.trans (Ghost.freeze (s := 9) rfl rfl (by repeat' (first | (show 0 + _ ≤ List.length _; simp)))) (Ghost.trans (Ghost.weak (s := 9) rfl (ALe.pv (whole_le (f := Opt.row) (l := o0 :: ops) (n := (List.map Opt.row ops).length + 1) (by simp)))) (back [0, 1, 2, 3] rfl rfl (by repeat' (first | exact trivial | exact rfl | refine And.intro ?_ ?_)) (by repeat' (first | exact trivial | exact rfl | refine And.intro ?_ ?_))))⟩
            · repeat' (first | (refine join_in (a := .seq (.region 10 _ _) _) (fun _ => []) (fun x : Nat × Placed × List Charge => [dice t x.1, zeroM, mb (slP 3 1 (List.map optsRow ([]))) nilA nilA r, obP 51 1 (List.map optsRow ([])), obP 62 6 (List.map Opt.row (o0 :: ops)), ob5 x.2.1.time.weeks x.2.1.time.day x.2.1.time.start x.2.1.time.len x.2.1.room (.pv (.sl 2 (x.2.2.map Charge.row)))]) (fun x => x.1 ≤ t.length ∧ (∀ i, i < x.2.2.length → chargeAt (mr r) x.2.2 i) ∧ x.2.2.length ≤ 4) ?_) | refine o1 ?_ | refine o2 ?_ | refine k1 ?_ | refine k2 ?_ | refine k3 ?_ | refine k4 ?_ | refine k6 ?_ | refine And.intro ?_ ?_ | (intro h; first | exact Bool.noConfusion h | exact nz _ h | exact nl h | (simp at h; done) | (simp at h; first | (exfalso; omega) | skip) | skip) | exact (by kernel_rfl : drawOk _ _ = true) | refine eqv_wrap (by omega) (by omega) ?_ | (change vcFun _ _ _ _ _; refine call_next 0 rfl (by assumption) (by assumption) (by omega) (by omega) ?_; intro v kq hv1 hv2 hkq) | fail)
              · rename_i v1 q1 a1 a2 a3 v2 q2 b1 b2 b3 v3 q3 d1 d2 d3
                refine loop_in (fun x : Nat × Nat × List Charge => [(12, vint .i64 x.1)]) (fun x => [dice t x.2.1, zeroM, mb (slP 3 1 (List.map optsRow ([]))) nilA nilA r, obP 51 1 (List.map optsRow ([])), obP 62 6 (List.map Opt.row (o0 :: ops)), ob5 (1 + v1) v2 v3 1 (v - 1) (slP 6 2 (List.map Charge.row (x.2.2))), obP 98 2 (List.map Charge.row (x.2.2))]) (fun x => x.1 ≤ r.toNat ∧ x.2.1 ≤ t.length ∧ ChQ r x.1 x.2.2) (fun x => r.toNat - x.1) (0, kq, []) ⟨Nat.zero_le _, by assumption, ChQ.nil⟩ ⟨?_, ?_⟩
                · exact back [0, 1, 2, 3, 4, 5, 6] rfl rfl (by repeat' (first | exact trivial | exact rfl | refine And.intro ?_ ?_)) (by repeat' (first | exact trivial | exact rfl | refine And.intro ?_ ?_))
                rintro ⟨u, k, chs⟩ ⟨u1, u2, u3⟩
                dsimp only at u1 u2 u3
                have hu3 := u3.len
                rcases chs with _ | ⟨h0, chs⟩
                · simp only [List.length_cons, List.length_nil] at hu3
                  dsimp only [slP, obP, zeroM, mb, ob5, nilA, List.map, List.length_cons, List.length_nil, List.length_map]
                  rcases Nat.lt_or_ge u r.toNat with hu | hu
                  · repeat' (first | ((change vcFun _ _ _ _ _; refine call_cost 0 rfl (by assumption) (by assumption) ?_; intro cn kc hcn hkc)) | refine o1 ?_ | refine o2 ?_ | refine k1 ?_ | refine k2 ?_ | refine k3 ?_ | refine k4 ?_ | refine k6 ?_ | refine And.intro ?_ ?_ | (intro h; first | exact Bool.noConfusion h | exact nz _ h | exact nl h | (simp at h; done) | (simp at h; first | (exfalso; omega) | skip) | skip) | (refine (?_ : srcLen _ = rowsLen _); rfl) | exact Nat.le_of_ble_eq_true rfl | refine eqv_wrap (by omega) (by omega) ?_ | refine eqv_to _ (app_first rfl) (eqv_to 1 rfl ?_) | (change vcFun _ _ _ _ _; refine call_one2 0 rfl (by assumption) (by assumption) (by omega) (by omega) ?_; intro bq kq hkq) | fail)
                    all_goals first
                      | (exfalso; omega)
                      | skip
                    · exact ⟨(u + 1, kq, [Charge.mk (u : Int) cn]), ⟨by show u + 1 ≤ _; omega, hkq, u3.app (by omega) (hcn.elim (fun h => by omega) id)⟩, (by show _ - (u + 1) < _; omega), back [0, 1, 2, 3, 4, 5, 8] rfl rfl (by repeat' (first | exact trivial | exact rfl | refine And.intro ?_ ?_)) (by repeat' (first | exact trivial | exact rfl | refine And.intro ?_ ?_))⟩
                    · exact ⟨(u + 1, kq, []), ⟨by show u + 1 ≤ _; omega, hkq, u3.skip⟩, (by show _ - (u + 1) < _; omega), back [0, 1, 2, 3, 4, 5, 6] rfl rfl (by repeat' (first | exact trivial | exact rfl | refine And.intro ?_ ?_)) (by repeat' (first | exact trivial | exact rfl | refine And.intro ?_ ?_))⟩
                    · exact ⟨(u + 1, kc, []), ⟨by show u + 1 ≤ _; omega, hkc, u3.skip⟩, (by show _ - (u + 1) < _; omega), back [0, 1, 2, 3, 4, 5, 6] rfl rfl (by repeat' (first | exact trivial | exact rfl | refine And.intro ?_ ?_)) (by repeat' (first | exact trivial | exact rfl | refine And.intro ?_ ?_))⟩
                  · repeat' (first | refine o1 ?_ | refine o2 ?_ | refine k1 ?_ | refine k2 ?_ | refine k3 ?_ | refine k8 ?_ | refine And.intro ?_ ?_ | (intro h; first | exact Bool.noConfusion h | exact nz _ h | exact nl h | (simp at h; done) | (simp at h; first | (exfalso; omega) | skip) | skip) | fail)
                    exact ⟨(k, ⟨⟨1 + v1, v2, v3, 1⟩, v - 1⟩, []), ⟨u2, u3.at_, by simp⟩, Ghost.trans (Ghost.shut (i := 5) (c := 5) (x := .pv (.val (.slice none 0 0))) rfl rfl rfl (by repeat' (first | trivial)) (show ¬ (5 ∈ ([] : List Nat)) by decide) (ALe.pv PLe.nil)) (back [0, 1, 2, 3, 4, 5] rfl rfl (by repeat' (first | exact trivial | exact rfl | refine And.intro ?_ ?_)) (by repeat' (first | exact trivial | exact rfl | refine And.intro ?_ ?_)))⟩
                · simp only [List.length_cons, List.length_nil] at hu3
                  dsimp only [slP, obP, zeroM, mb, ob5, nilA, List.map, List.length_cons, List.length_nil, List.length_map]
                  rcases Nat.lt_or_ge u r.toNat with hu | hu
                  · repeat' (first | ((change vcFun _ _ _ _ _; refine call_cost 0 rfl (by assumption) (by assumption) ?_; intro cn kc hcn hkc)) | (refine app_consm (f := Charge.row) (Charge.mk (u : Int) cn) rfl ?_) | refine o1 ?_ | refine o2 ?_ | refine k1 ?_ | refine k2 ?_ | refine k3 ?_ | refine k4 ?_ | refine k6 ?_ | refine And.intro ?_ ?_ | (intro h; first | exact Bool.noConfusion h | exact nz _ h | exact nl h | (simp at h; done) | (simp at h; first | (exfalso; omega) | skip) | skip) | (refine (?_ : srcLen _ = rowsLen _); rfl) | refine eqv_wrap (by omega) (by omega) ?_ | (refine (?_ : _ ≤ 140737488355328); simp [rowsLen] <;> omega) | (refine (?_ : _ ≤ 9223372036854775807); simp [rowsLen] <;> omega) | (refine (?_ : _ = rowsLen _); simp [rowsLen] <;> omega) | (change vcFun _ _ _ _ _; refine call_one2 0 rfl (by assumption) (by assumption) (by omega) (by omega) ?_; intro bq kq hkq) | fail)
                    all_goals first
                      | (exfalso; omega)
                      | skip
                    · exact ⟨(u + 1, kq, h0 :: (chs ++ [Charge.mk (u : Int) cn])), ⟨by show u + 1 ≤ _; omega, hkq, u3.app (by omega) (hcn.elim (fun h => by omega) id)⟩, (by show _ - (u + 1) < _; omega), back [0, 1, 2, 3, 4, 5, 8] rfl rfl (by repeat' (first | exact trivial | exact rfl | refine And.intro ?_ ?_)) (by repeat' (first | exact trivial | exact rfl | refine And.intro ?_ ?_))⟩
                    · exact ⟨(u + 1, kq, h0 :: chs), ⟨by show u + 1 ≤ _; omega, hkq, u3.skip⟩, (by show _ - (u + 1) < _; omega), back [0, 1, 2, 3, 4, 5, 6] rfl rfl (by repeat' (first | exact trivial | exact rfl | refine And.intro ?_ ?_)) (by repeat' (first | exact trivial | exact rfl | refine And.intro ?_ ?_))⟩
                    · exact ⟨(u + 1, kc, h0 :: chs), ⟨by show u + 1 ≤ _; omega, hkc, u3.skip⟩, (by show _ - (u + 1) < _; omega), back [0, 1, 2, 3, 4, 5, 6] rfl rfl (by repeat' (first | exact trivial | exact rfl | refine And.intro ?_ ?_)) (by repeat' (first | exact trivial | exact rfl | refine And.intro ?_ ?_))⟩
                  · repeat' (first | refine o1 ?_ | refine o2 ?_ | refine k1 ?_ | refine k2 ?_ | refine k3 ?_ | refine k8 ?_ | refine And.intro ?_ ?_ | (intro h; first | exact Bool.noConfusion h | exact nz _ h | exact nl h | (simp at h; done) | (simp at h; first | (exfalso; omega) | skip) | skip) | fail)
                    exact ⟨(k, ⟨⟨1 + v1, v2, v3, 1⟩, v - 1⟩, h0 :: chs), ⟨u2, u3.at_, by simp only [List.length_cons]; omega⟩, Ghost.trans (Ghost.shut (i := 5) (c := 5) (x := .ms 6 2 0 ((List.map Charge.row chs).length + 1)) rfl rfl rfl (by repeat' (first | (show 0 + _ ≤ List.length _; simp))) (show ¬ (5 ∈ ([6] : List Nat)) by decide) (ALe.pv (whole_le (f := Charge.row) (l := h0 :: chs) (by simp)))) (back [0, 1, 2, 3, 4, 5] rfl rfl (by repeat' (first | exact trivial | exact rfl | refine And.intro ?_ ?_)) (by repeat' (first | exact trivial | exact rfl | refine And.intro ?_ ?_)))⟩
              refine ⟨?_⟩
              rintro ⟨k, pl, chs⟩ ⟨f1, f2, f3⟩
              dsimp only at f1 f2 f3
              dsimp only [slP, obP, zeroM, mb, ob5, nilA, List.map, List.length_cons, List.length_nil, List.length_map]
              repeat' (first | (refine app_consm (f := Opt.row) ⟨pl, chs⟩ rfl ?_) | refine o1 ?_ | refine o2 ?_ | refine k2 ?_ | refine And.intro ?_ ?_ | (refine (?_ : srcLen _ = rowsLen _); rfl) | refine eqv_wrap (by omega) (by omega) ?_ | (refine (?_ : _ ≤ 140737488355328); simp [rowsLen] <;> omega) | (refine (?_ : _ ≤ 9223372036854775807); simp [rowsLen] <;> omega) | (refine (?_ : _ = rowsLen _); simp [rowsLen] <;> omega) | fail)
              exact ⟨(n2 - 1, k, o0 :: (ops ++ [Opt.mk pl chs])), ⟨⟨by show n2 - 1 + List.length _ ≤ 4; simp; try omega, by show 1 ≤ n2 - 1 + List.length _; simp; try omega⟩, f1, all_app (l := o0 :: ops) g3 (show OptQ r ⟨pl, chs⟩ from ⟨f2, f3⟩)⟩, (by show n2 - 1 < n2; omega), back [0, 1, 2, 3, 7] rfl rfl (by repeat' (first | exact trivial | exact rfl | refine And.intro ?_ ?_)) ⟨rfl, slot_eq rfl (congrArg (vint .i64) (by show _ = ((n2 - 1 : Nat) : Int); omega)), (by repeat' (first | exact trivial | exact rfl | refine And.intro ?_ ?_))⟩⟩
        refine ⟨?_⟩
        rintro ⟨k, ops⟩ ⟨e1, e2, e3, e4⟩
        dsimp only at e1 e2 e3 e4
        dsimp only [slP, obP, zeroM, mb, ob5, nilA, List.map, List.length_cons, List.length_nil, List.length_map]
        repeat' (first | refine o1 ?_ | refine o2 ?_ | refine k2 ?_ | refine And.intro ?_ ?_ | (intro h; first | exact Bool.noConfusion h | exact nz _ h | exact nl h | (simp at h; done) | (simp at h; first | (exfalso; omega) | skip) | skip) | (refine (?_ : srcLen _ = rowsLen _); rfl) | exact Nat.le_of_ble_eq_true rfl | refine eqv_wrap (by omega) (by omega) ?_ | refine eqv_to _ (app_first rfl) (eqv_to 1 rfl ?_) | fail)
        exact ⟨(n - 1, k, [ops]), ⟨by show n - 1 + List.length _ ≤ 5; simp; try omega, e1, all_app (l := []) c3 (show ClsQ r ops from ⟨e2, e3, e4⟩)⟩, (by show n - 1 < n; omega), back [0, 1, 2, 5] rfl rfl (by repeat' (first | exact trivial | exact rfl | refine And.intro ?_ ?_)) ⟨slot_eq rfl (congrArg (vint .i64) (by show _ = ((n - 1 : Nat) : Int); omega)), (by repeat' (first | exact trivial | exact rfl | refine And.intro ?_ ?_))⟩⟩
    · simp only [List.length_cons, List.length_nil] at c1
      dsimp only [slP, obP, zeroM, mb, ob5, nilA, List.map, List.length_cons, List.length_nil, List.length_map]
      rcases Nat.eq_zero_or_pos n with rfl | hn
      · repeat' (first | refine o1 ?_ | refine o2 ?_ | refine k1 ?_ | refine k2 ?_ | refine k3 ?_ | refine k8 ?_ | refine And.intro ?_ ?_ | (intro h; first | exact Bool.noConfusion h | exact nz _ h | exact nl h | (simp at h; done) | (simp at h; first | (exfalso; omega) | skip) | skip) | fail)
        exact ⟨(k, c0 :: cls), ⟨c2, by simp only [List.length_cons]; omega, c3⟩, Ghost.trans (Ghost.shut (i := 2) (c := 0) (x := .ms 3 1 0 ((List.map optsRow cls).length + 1)) rfl rfl rfl (by repeat' (first | (show 0 + _ ≤ List.length _; simp))) (show ¬ (2 ∈ ([3] : List Nat)) by decide) (ALe.pv (whole_le (f := optsRow) (l := c0 :: cls) (by simp)))) (back [0, 1, 2] rfl rfl (by repeat' (first | exact trivial | exact rfl | refine And.intro ?_ ?_)) (by repeat' (first | exact trivial | exact rfl | refine And.intro ?_ ?_)))⟩
      · repeat' (first | (refine join_in (a := .seq (.region 6 _ _) _) (fun x : Nat × List Opt => [(9, .pv (.sl 6 (x.2.map Opt.row)))]) (fun x => [dice t x.1, zeroM, mb (slP 3 1 (List.map optsRow (c0 :: cls))) nilA nilA r, obP 51 1 (List.map optsRow (c0 :: cls))]) (fun x => x.1 ≤ t.length ∧ 1 ≤ x.2.length ∧ x.2.length ≤ 4 ∧ ∀ o ∈ x.2, OptQ r o) ?_) | refine o1 ?_ | refine o2 ?_ | refine k1 ?_ | refine k2 ?_ | refine k3 ?_ | refine k4 ?_ | refine k6 ?_ | refine And.intro ?_ ?_ | (intro h; first | exact Bool.noConfusion h | exact nz _ h | exact nl h | (simp at h; done) | (simp at h; first | (exfalso; omega) | skip) | skip) | refine eqv_wrap (by omega) (by omega) ?_ | (change vcFun _ _ _ _ _; refine call_next 0 rfl (by assumption) (by assumption) (by omega) (by omega) ?_; intro v kq hv1 hv2 hkq) | fail)
        · refine loop_in (fun x : Nat × Nat × List Opt => [(9, slP 4 6 (List.map Opt.row (x.2.2))), (10, vint .i64 x.1)]) (fun x => [dice t x.2.1, zeroM, mb (slP 3 1 (List.map optsRow (c0 :: cls))) nilA nilA r, obP 51 1 (List.map optsRow (c0 :: cls)), obP 62 6 (List.map Opt.row (x.2.2))]) (fun x => (x.1 + x.2.2.length ≤ 4 ∧ 1 ≤ x.1 + x.2.2.length) ∧ x.2.1 ≤ t.length ∧ ∀ o ∈ x.2.2, OptQ r o) (fun x => x.1) ((1 + v).toNat, kq, []) ⟨by simp; omega, hkq, fun o ho => absurd ho List.not_mem_nil⟩ ⟨?_, ?_⟩
          · exact back [0, 1, 2, 3, 4] rfl rfl (by repeat' (first | exact trivial | exact rfl | refine And.intro ?_ ?_)) ⟨rfl, slot_eq rfl (congrArg (vint .i64) (by show _ = (((1 + v).toNat : Nat) : Int); omega)), (by repeat' (first | exact trivial | exact rfl | refine And.intro ?_ ?_))⟩
          rintro ⟨n2, k, ops⟩ ⟨g1, g2, g3⟩
          dsimp only at g1 g2 g3
          rcases ops with _ | ⟨o0, ops⟩
          · simp only [List.length_cons, List.length_nil] at g1
            dsimp only [slP, obP, zeroM, mb, ob5, nilA, List.map, List.length_cons, List.length_nil, List.length_map]
            rcases Nat.eq_zero_or_pos n2 with rfl | hn
            · repeat' (first | refine o1 ?_ | refine o2 ?_ | refine k1 ?_ | refine k2 ?_ | refine k3 ?_ | refine And.intro ?_ ?_ | (intro h; first | exact Bool.noConfusion h | exact nz _ h | exact nl h | (simp at h; done) | (simp at h; first | (exfalso; omega) | skip) | skip) | fail)
              all_goals (exfalso; omega)
            · repeat' (first | (refine join_in (a := .seq (.region 10 _ _) _) (fun _ => []) (fun x : Nat × Placed × List Charge => [dice t x.1, zeroM, mb (slP 3 1 (List.map optsRow (c0 :: cls))) nilA nilA r, obP 51 1 (List.map optsRow (c0 :: cls)), obP 62 6 (List.map Opt.row ([])), ob5 x.2.1.time.weeks x.2.1.time.day x.2.1.time.start x.2.1.time.len x.2.1.room (.pv (.sl 2 (x.2.2.map Charge.row)))]) (fun x => x.1 ≤ t.length ∧ (∀ i, i < x.2.2.length → chargeAt (mr r) x.2.2 i) ∧ x.2.2.length ≤ 4) ?_) | refine o1 ?_ | refine o2 ?_ | refine k1 ?_ | refine k2 ?_ | refine k3 ?_ | refine k4 ?_ | refine k6 ?_ | refine And.intro ?_ ?_ | (intro h; first | exact Bool.noConfusion h | exact nz _ h | exact nl h | (simp at h; done) | (simp at h; first | (exfalso; omega) | skip) | skip) | exact (by kernel_rfl : drawOk _ _ = true) | refine eqv_wrap (by omega) (by omega) ?_ | (change vcFun _ _ _ _ _; refine call_next 0 rfl (by assumption) (by assumption) (by omega) (by omega) ?_; intro v kq hv1 hv2 hkq) | fail)
              · rename_i v1 q1 a1 a2 a3 v2 q2 b1 b2 b3 v3 q3 d1 d2 d3
                refine loop_in (fun x : Nat × Nat × List Charge => [(12, vint .i64 x.1)]) (fun x => [dice t x.2.1, zeroM, mb (slP 3 1 (List.map optsRow (c0 :: cls))) nilA nilA r, obP 51 1 (List.map optsRow (c0 :: cls)), obP 62 6 (List.map Opt.row ([])), ob5 (1 + v1) v2 v3 1 (v - 1) (slP 6 2 (List.map Charge.row (x.2.2))), obP 98 2 (List.map Charge.row (x.2.2))]) (fun x => x.1 ≤ r.toNat ∧ x.2.1 ≤ t.length ∧ ChQ r x.1 x.2.2) (fun x => r.toNat - x.1) (0, kq, []) ⟨Nat.zero_le _, by assumption, ChQ.nil⟩ ⟨?_, ?_⟩
                · exact back [0, 1, 2, 3, 4, 5, 6] rfl rfl (by repeat' (first | exact trivial | exact rfl | refine And.intro ?_ ?_)) (by repeat' (first | exact trivial | exact rfl | refine And.intro ?_ ?_))
                rintro ⟨u, k, chs⟩ ⟨u1, u2, u3⟩
                dsimp only at u1 u2 u3
                have hu3 := u3.len
                rcases chs with _ | ⟨h0, chs⟩
                · simp only [List.length_cons, List.length_nil] at hu3
                  dsimp only [slP, obP, zeroM, mb, ob5, nilA, List.map, List.length_cons, List.length_nil, List.length_map]
                  rcases Nat.lt_or_ge u r.toNat with hu | hu
                  · repeat' (first | ((change vcFun _ _ _ _ _; refine call_cost 0 rfl (by assumption) (by assumption) ?_; intro cn kc hcn hkc)) | refine o1 ?_ | refine o2 ?_ | refine k1 ?_ | refine k2 ?_ | refine k3 ?_ | refine k4 ?_ | refine k6 ?_ | refine And.intro ?_ ?_ | (intro h; first | exact Bool.noConfusion h | exact nz _ h | exact nl h | (simp at h; done) | (simp at h; first | (exfalso; omega) | skip) | skip) | (refine (?_ : srcLen _ = rowsLen _); rfl) | exact Nat.le_of_ble_eq_true rfl | refine eqv_wrap (by omega) (by omega) ?_ | refine eqv_to _ (app_first rfl) (eqv_to 1 rfl ?_) | (change vcFun _ _ _ _ _; refine call_one2 0 rfl (by assumption) (by assumption) (by omega) (by omega) ?_; intro bq kq hkq) | fail)
                    all_goals first
                      | (exfalso; omega)
                      | skip
                    · exact ⟨(u + 1, kq, [Charge.mk (u : Int) cn]), ⟨by show u + 1 ≤ _; omega, hkq, u3.app (by omega) (hcn.elim (fun h => by omega) id)⟩, (by show _ - (u + 1) < _; omega), back [0, 1, 2, 3, 4, 5, 8] rfl rfl (by repeat' (first | exact trivial | exact rfl | refine And.intro ?_ ?_)) (by repeat' (first | exact trivial | exact rfl | refine And.intro ?_ ?_))⟩
                    · exact ⟨(u + 1, kq, []), ⟨by show u + 1 ≤ _; omega, hkq, u3.skip⟩, (by show _ - (u + 1) < _; omega), back [0, 1, 2, 3, 4, 5, 6] rfl rfl (by repeat' (first | exact trivial | exact rfl | refine And.intro ?_ ?_)) (by repeat' (first | exact trivial | exact rfl | refine And.intro ?_ ?_))⟩
                    · exact ⟨(u + 1, kc, []), ⟨by show u + 1 ≤ _; omega, hkc, u3.skip⟩, (by show _ - (u + 1) < _; omega), back [0, 1, 2, 3, 4, 5, 6] rfl rfl (by repeat' (first | exact trivial | exact rfl | refine And.intro ?_ ?_)) (by repeat' (first | exact trivial | exact rfl | refine And.intro ?_ ?_))⟩
                  · repeat' (first | refine o1 ?_ | refine o2 ?_ | refine k1 ?_ | refine k2 ?_ | refine k3 ?_ | refine k8 ?_ | refine And.intro ?_ ?_ | (intro h; first | exact Bool.noConfusion h | exact nz _ h | exact nl h | (simp at h; done) | (simp at h; first | (exfalso; omega) | skip) | skip) | fail)
                    exact ⟨(k, ⟨⟨1 + v1, v2, v3, 1⟩, v - 1⟩, []), ⟨u2, u3.at_, by simp⟩, Ghost.trans (Ghost.shut (i := 5) (c := 5) (x := .pv (.val (.slice none 0 0))) rfl rfl rfl (by repeat' (first | trivial)) (show ¬ (5 ∈ ([] : List Nat)) by decide) (ALe.pv PLe.nil)) (back [0, 1, 2, 3, 4, 5] rfl rfl (by repeat' (first | exact trivial | exact rfl | refine And.intro ?_ ?_)) (by repeat' (first | exact trivial | exact rfl | refine And.intro ?_ ?_)))⟩
                · simp only [List.length_cons, List.length_nil] at hu3
                  dsimp only [slP, obP, zeroM, mb, ob5, nilA, List.map, List.length_cons, List.length_nil, List.length_map]
                  rcases Nat.lt_or_ge u r.toNat with hu | hu
                  · repeat' (first | ((change vcFun _ _ _ _ _; refine call_cost 0 rfl (by assumption) (by assumption) ?_; intro cn kc hcn hkc)) | (refine app_consm (f := Charge.row) (Charge.mk (u : Int) cn) rfl ?_) | refine o1 ?_ | refine o2 ?_ | refine k1 ?_ | refine k2 ?_ | refine k3 ?_ | refine k4 ?_ | refine k6 ?_ | refine And.intro ?_ ?_ | (intro h; first | exact Bool.noConfusion h | exact nz _ h | exact nl h | (simp at h; done) | (simp at h; first | (exfalso; omega) | skip) | skip) | (refine (?_ : srcLen _ = rowsLen _); rfl) | refine eqv_wrap (by omega) (by omega) ?_ | (refine (?_ : _ ≤ 140737488355328); simp [rowsLen] <;> omega) | (refine (?_ : _ ≤ 9223372036854775807); simp [rowsLen] <;> omega) | (refine (?_ : _ = rowsLen _); simp [rowsLen] <;> omega) | (change vcFun _ _ _ _ _; refine call_one2 0 rfl (by assumption) (by assumption) (by omega) (by omega) ?_; intro bq kq hkq) | fail)
                    all_goals first
                      | (exfalso; omega)
                      | skip
                    · exact ⟨(u + 1, kq, h0 :: (chs ++ [Charge.mk (u : Int) cn])), ⟨by show u + 1 ≤ _; omega, hkq, u3.app (by omega) (hcn.elim (fun h => by omega) id)⟩, (by show _ - (u + 1) < _; omega), back [0, 1, 2, 3, 4, 5, 8] rfl rfl (by repeat' (first | exact trivial | exact rfl | refine And.intro ?_ ?_)) (by repeat' (first | exact trivial | exact rfl | refine And.intro ?_ ?_))⟩
                    · exact ⟨(u + 1, kq, h0 :: chs), ⟨by show u + 1 ≤ _; omega, hkq, u3.skip⟩, (by show _ - (u + 1) < _; omega), back [0, 1, 2, 3, 4, 5, 6] rfl rfl (by repeat' (first | exact trivial | exact rfl | refine And.intro ?_ ?_)) (by repeat' (first | exact trivial | exact rfl | refine And.intro ?_ ?_))⟩
                    · exact ⟨(u + 1, kc, h0 :: chs), ⟨by show u + 1 ≤ _; omega, hkc, u3.skip⟩, (by show _ - (u + 1) < _; omega), back [0, 1, 2, 3, 4, 5, 6] rfl rfl (by repeat' (first | exact trivial | exact rfl | refine And.intro ?_ ?_)) (by repeat' (first | exact trivial | exact rfl | refine And.intro ?_ ?_))⟩
                  · repeat' (first | refine o1 ?_ | refine o2 ?_ | refine k1 ?_ | refine k2 ?_ | refine k3 ?_ | refine k8 ?_ | refine And.intro ?_ ?_ | (intro h; first | exact Bool.noConfusion h | exact nz _ h | exact nl h | (simp at h; done) | (simp at h; first | (exfalso; omega) | skip) | skip) | fail)
                    exact ⟨(k, ⟨⟨1 + v1, v2, v3, 1⟩, v - 1⟩, h0 :: chs), ⟨u2, u3.at_, by simp only [List.length_cons]; omega⟩, Ghost.trans (Ghost.shut (i := 5) (c := 5) (x := .ms 6 2 0 ((List.map Charge.row chs).length + 1)) rfl rfl rfl (by repeat' (first | (show 0 + _ ≤ List.length _; simp))) (show ¬ (5 ∈ ([6] : List Nat)) by decide) (ALe.pv (whole_le (f := Charge.row) (l := h0 :: chs) (by simp)))) (back [0, 1, 2, 3, 4, 5] rfl rfl (by repeat' (first | exact trivial | exact rfl | refine And.intro ?_ ?_)) (by repeat' (first | exact trivial | exact rfl | refine And.intro ?_ ?_)))⟩
              refine ⟨?_⟩
              rintro ⟨k, pl, chs⟩ ⟨f1, f2, f3⟩
              dsimp only at f1 f2 f3
              dsimp only [slP, obP, zeroM, mb, ob5, nilA, List.map, List.length_cons, List.length_nil, List.length_map]
              repeat' (first | refine o1 ?_ | refine o2 ?_ | refine k2 ?_ | refine And.intro ?_ ?_ | (intro h; first | exact Bool.noConfusion h | exact nz _ h | exact nl h | (simp at h; done) | (simp at h; first | (exfalso; omega) | skip) | skip) | (refine (?_ : srcLen _ = rowsLen _); rfl) | exact Nat.le_of_ble_eq_true rfl | refine eqv_wrap (by omega) (by omega) ?_ | refine eqv_to _ (app_first rfl) (eqv_to 1 rfl ?_) | fail)
              exact ⟨(n2 - 1, k, [Opt.mk pl chs]), ⟨⟨by show n2 - 1 + List.length _ ≤ 4; simp; try omega, by show 1 ≤ n2 - 1 + List.length _; simp; try omega⟩, f1, all_app (l := []) g3 (show OptQ r ⟨pl, chs⟩ from ⟨f2, f3⟩)⟩, (by show n2 - 1 < n2; omega), back [0, 1, 2, 3, 7] rfl rfl (by repeat' (first | exact trivial | exact rfl | refine And.intro ?_ ?_)) ⟨rfl, slot_eq rfl (congrArg (vint .i64) (by show _ = ((n2 - 1 : Nat) : Int); omega)), (by repeat' (first | exact trivial | exact rfl | refine And.intro ?_ ?_))⟩⟩
          · simp only [List.length_cons, List.length_nil] at g1
            dsimp only [slP, obP, zeroM, mb, ob5, nilA, List.map, List.length_cons, List.length_nil, List.length_map]
            rcases Nat.eq_zero_or_pos n2 with rfl | hn
            · repeat' (first | refine o1 ?_ | refine o2 ?_ | refine k1 ?_ | refine k2 ?_ | refine k3 ?_ | refine k8 ?_ | refine And.intro ?_ ?_ | (intro h; first | exact Bool.noConfusion h | exact nz _ h | exact nl h | (simp at h; done) | (simp at h; first | (exfalso; omega) | skip) | skip) | fail)
              exact ⟨(k, o0 :: ops), ⟨g2, by simp; try omega, by simp only [List.length_cons]; omega, g3⟩, Ghost.trans (Ghost.freeze (s := 9) rfl rfl (by repeat' (first | (show 0 + _ ≤ List.length _; simp)))) (Ghost.trans (Ghost.weak (s := 9) rfl (ALe.pv (whole_le (f := Opt.row) (l := o0 :: ops) (n := (List.map Opt.row ops).length + 1) (by simp)))) (back [0, 1, 2, 3] rfl rfl (by repeat' (first | exact trivial | exact rfl | refine And.intro ?_ ?_)) (by repeat' (first | exact trivial | exact rfl | refine And.intro ?_ ?_))))⟩
            · repeat' (first | (refine join_in (a := .seq (.region 10 _ _) _) (fun _ => []) (fun x : Nat × Placed × List Charge => [dice t x.1, zeroM, mb (slP 3 1 (List.map optsRow (c0 :: cls))) nilA nilA r, obP 51 1 (List.map optsRow (c0 :: cls)), obP 62 6 (List.map Opt.row (o0 :: ops)), ob5 x.2.1.time.weeks x.2.1.time.day x.2.1.time.start x.2.1.time.len x.2.1.room (.pv (.sl 2 (x.2.2.map Charge.row)))]) (fun x => x.1 ≤ t.length ∧ (∀ i, i < x.2.2.length → chargeAt (mr r) x.2.2 i) ∧ x.2.2.length ≤ 4) ?_) | refine o1 ?_ | refine o2 ?_ | refine k1 ?_ | refine k2 ?_ | refine k3 ?_ | refine k4 ?_ | refine k6 ?_ | refine And.intro ?_ ?_ | (intro h; first | exact Bool.noConfusion h | exact nz _ h | exact nl h | (simp at h; done) | (simp at h; first | (exfalso; omega) | skip) | skip) | exact (by kernel_rfl : drawOk _ _ = true) | refine eqv_wrap (by omega) (by omega) ?_ | (change vcFun _ _ _ _ _; refine call_next 0 rfl (by assumption) (by assumption) (by omega) (by omega) ?_; intro v kq hv1 hv2 hkq) | fail)
              · rename_i v1 q1 a1 a2 a3 v2 q2 b1 b2 b3 v3 q3 d1 d2 d3
                refine loop_in (fun x : Nat × Nat × List Charge => [(12, vint .i64 x.1)]) (fun x => [dice t x.2.1, zeroM, mb (slP 3 1 (List.map optsRow (c0 :: cls))) nilA nilA r, obP 51 1 (List.map optsRow (c0 :: cls)), obP 62 6 (List.map Opt.row (o0 :: ops)), ob5 (1 + v1) v2 v3 1 (v - 1) (slP 6 2 (List.map Charge.row (x.2.2))), obP 98 2 (List.map Charge.row (x.2.2))]) (fun x => x.1 ≤ r.toNat ∧ x.2.1 ≤ t.length ∧ ChQ r x.1 x.2.2) (fun x => r.toNat - x.1) (0, kq, []) ⟨Nat.zero_le _, by assumption, ChQ.nil⟩ ⟨?_, ?_⟩
                · exact back [0, 1, 2, 3, 4, 5, 6] rfl rfl (by repeat' (first | exact trivial | exact rfl | refine And.intro ?_ ?_)) (by repeat' (first | exact trivial | exact rfl | refine And.intro ?_ ?_))
                rintro ⟨u, k, chs⟩ ⟨u1, u2, u3⟩
                dsimp only at u1 u2 u3
                have hu3 := u3.len
                rcases chs with _ | ⟨h0, chs⟩
                · simp only [List.length_cons, List.length_nil] at hu3
                  dsimp only [slP, obP, zeroM, mb, ob5, nilA, List.map, List.length_cons, List.length_nil, List.length_map]
                  rcases Nat.lt_or_ge u r.toNat with hu | hu
                  · repeat' (first | ((change vcFun _ _ _ _ _; refine call_cost 0 rfl (by assumption) (by assumption) ?_; intro cn kc hcn hkc)) | refine o1 ?_ | refine o2 ?_ | refine k1 ?_ | refine k2 ?_ | refine k3 ?_ | refine k4 ?_ | refine k6 ?_ | refine And.intro ?_ ?_ | (intro h; first | exact Bool.noConfusion h | exact nz _ h | exact nl h | (simp at h; done) | (simp at h; first | (exfalso; omega) | skip) | skip) | (refine (?_ : srcLen _ = rowsLen _); rfl) | exact Nat.le_of_ble_eq_true rfl | refine eqv_wrap (by omega) (by omega) ?_ | refine eqv_to _ (app_first rfl) (eqv_to 1 rfl ?_) | (change vcFun _ _ _ _ _; refine call_one2 0 rfl (by assumption) (by assumption) (by omega) (by omega) ?_; intro bq kq hkq) | fail)
                    all_goals first
                      | (exfalso; omega)
                      | skip
                    · exact ⟨(u + 1, kq, [Charge.mk (u : Int) cn]), ⟨by show u + 1 ≤ _; omega, hkq, u3.app (by omega) (hcn.elim (fun h => by omega) id)⟩, (by show _ - (u + 1) < _; omega), back [0, 1, 2, 3, 4, 5, 8] rfl rfl (by repeat' (first | exact trivial | exact rfl | refine And.intro ?_ ?_)) (by repeat' (first | exact trivial | exact rfl | refine And.intro ?_ ?_))⟩
                    · exact ⟨(u + 1, kq, []), ⟨by show u + 1 ≤ _; omega, hkq, u3.skip⟩, (by show _ - (u + 1) < _; omega), back [0, 1, 2, 3, 4, 5, 6] rfl rfl (by repeat' (first | exact trivial | exact rfl | refine And.intro ?_ ?_)) (by repeat' (first | exact trivial | exact rfl | refine And.intro ?_ ?_))⟩
                    · exact ⟨(u + 1, kc, []), ⟨by show u + 1 ≤ _; omega, hkc, u3.skip⟩, (by show _ - (u + 1) < _; omega), back [0, 1, 2, 3, 4, 5, 6] rfl rfl (by repeat' (first | exact trivial | exact rfl | refine And.intro ?_ ?_)) (by repeat' (first | exact trivial | exact rfl | refine And.intro ?_ ?_))⟩
                  · repeat' (first | refine o1 ?_ | refine o2 ?_ | refine k1 ?_ | refine k2 ?_ | refine k3 ?_ | refine k8 ?_ | refine And.intro ?_ ?_ | (intro h; first | exact Bool.noConfusion h | exact nz _ h | exact nl h | (simp at h; done) | (simp at h; first | (exfalso; omega) | skip) | skip) | fail)
                    exact ⟨(k, ⟨⟨1 + v1, v2, v3, 1⟩, v - 1⟩, []), ⟨u2, u3.at_, by simp⟩, Ghost.trans (Ghost.shut (i := 5) (c := 5) (x := .pv (.val (.slice none 0 0))) rfl rfl rfl (by repeat' (first | trivial)) (show ¬ (5 ∈ ([] : List Nat)) by decide) (ALe.pv PLe.nil)) (back [0, 1, 2, 3, 4, 5] rfl rfl (by repeat' (first | exact trivial | exact rfl | refine And.intro ?_ ?_)) (by repeat' (first | exact trivial | exact rfl | refine And.intro ?_ ?_)))⟩
                · simp only [List.length_cons, List.length_nil] at hu3
                  dsimp only [slP, obP, zeroM, mb, ob5, nilA, List.map, List.length_cons, List.length_nil, List.length_map]
                  rcases Nat.lt_or_ge u r.toNat with hu | hu
                  · repeat' (first | ((change vcFun _ _ _ _ _; refine call_cost 0 rfl (by assumption) (by assumption) ?_; intro cn kc hcn hkc)) | (refine app_consm (f := Charge.row) (Charge.mk (u : Int) cn) rfl ?_) | refine o1 ?_ | refine o2 ?_ | refine k1 ?_ | refine k2 ?_ | refine k3 ?_ | refine k4 ?_ | refine k6 ?_ | refine And.intro ?_ ?_ | (intro h; first | exact Bool.noConfusion h | exact nz _ h | exact nl h | (simp at h; done) | (simp at h; first | (exfalso; omega) | skip) | skip) | (refine (?_ : srcLen _ = rowsLen _); rfl) | refine eqv_wrap (by omega) (by omega) ?_ | (refine (?_ : _ ≤ 140737488355328); simp [rowsLen] <;> omega) | (refine (?_ : _ ≤ 9223372036854775807); simp [rowsLen] <;> omega) | (refine (?_ : _ = rowsLen _); simp [rowsLen] <;> omega) | (change vcFun _ _ _ _ _; refine call_one2 0 rfl (by assumption) (by assumption) (by omega) (by omega) ?_; intro bq kq hkq) | fail)
                    all_goals first
                      | (exfalso; omega)
                      | skip
                    · exact ⟨(u + 1, kq, h0 :: (chs ++ [Charge.mk (u : Int) cn])), ⟨by show u + 1 ≤ _; omega, hkq, u3.app (by omega) (hcn.elim (fun h => by omega) id)⟩, (by show _ - (u + 1) < _; omega), back [0, 1, 2, 3, 4, 5, 8] rfl rfl (by repeat' (first | exact trivial | exact rfl | refine And.intro ?_ ?_)) (by repeat' (first | exact trivial | exact rfl | refine And.intro ?_ ?_))⟩
                    · exact ⟨(u + 1, kq, h0 :: chs), ⟨by show u + 1 ≤ _; omega, hkq, u3.skip⟩, (by show _ - (u + 1) < _; omega), back [0, 1, 2, 3, 4, 5, 6] rfl rfl (by repeat' (first | exact trivial | exact rfl | refine And.intro ?_ ?_)) (by repeat' (first | exact trivial | exact rfl | refine And.intro ?_ ?_))⟩
                    · exact ⟨(u + 1, kc, h0 :: chs), ⟨by show u + 1 ≤ _; omega, hkc, u3.skip⟩, (by show _ - (u + 1) < _; omega), back [0, 1, 2, 3, 4, 5, 6] rfl rfl (by repeat' (first | exact trivial | exact rfl | refine And.intro ?_ ?_)) (by repeat' (first | exact trivial | exact rfl | refine And.intro ?_ ?_))⟩
                  · repeat' (first | refine o1 ?_ | refine o2 ?_ | refine k1 ?_ | refine k2 ?_ | refine k3 ?_ | refine k8 ?_ | refine And.intro ?_ ?_ | (intro h; first | exact Bool.noConfusion h | exact nz _ h | exact nl h | (simp at h; done) | (simp at h; first | (exfalso; omega) | skip) | skip) | fail)
                    exact ⟨(k, ⟨⟨1 + v1, v2, v3, 1⟩, v - 1⟩, h0 :: chs), ⟨u2, u3.at_, by simp only [List.length_cons]; omega⟩, Ghost.trans (Ghost.shut (i := 5) (c := 5) (x := .ms 6 2 0 ((List.map Charge.row chs).length + 1)) rfl rfl rfl (by repeat' (first | (show 0 + _ ≤ List.length _; simp))) (show ¬ (5 ∈ ([6] : List Nat)) by decide) (ALe.pv (whole_le (f := Charge.row) (l := h0 :: chs) (by simp)))) (back [0, 1, 2, 3, 4, 5] rfl rfl (by repeat' (first | exact trivial | exact rfl | refine And.intro ?_ ?_)) (by repeat' (first | exact trivial | exact rfl | refine And.intro ?_ ?_)))⟩
              refine ⟨?_⟩
              rintro ⟨k, pl, chs⟩ ⟨f1, f2, f3⟩
              dsimp only at f1 f2 f3
              dsimp only [slP, obP, zeroM, mb, ob5, nilA, List.map, List.length_cons, List.length_nil, List.length_map]
              repeat' (first | (refine app_consm (f := Opt.row) ⟨pl, chs⟩ rfl ?_) | refine o1 ?_ | refine o2 ?_ | refine k2 ?_ | refine And.intro ?_ ?_ | (refine (?_ : srcLen _ = rowsLen _); rfl) | refine eqv_wrap (by omega) (by omega) ?_ | (refine (?_ : _ ≤ 140737488355328); simp [rowsLen] <;> omega) | (refine (?_ : _ ≤ 9223372036854775807); simp [rowsLen] <;> omega) | (refine (?_ : _ = rowsLen _); simp [rowsLen] <;> omega) | fail)
              exact ⟨(n2 - 1, k, o0 :: (ops ++ [Opt.mk pl chs])), ⟨⟨by show n2 - 1 + List.length _ ≤ 4; simp; try omega, by show 1 ≤ n2 - 1 + List.length _; simp; try omega⟩, f1, all_app (l := o0 :: ops) g3 (show OptQ r ⟨pl, chs⟩ from ⟨f2, f3⟩)⟩, (by show n2 - 1 < n2; omega), back [0, 1, 2, 3, 7] rfl rfl (by repeat' (first | exact trivial | exact rfl | refine And.intro ?_ ?_)) ⟨rfl, slot_eq rfl (congrArg (vint .i64) (by show _ = ((n2 - 1 : Nat) : Int); omega)), (by repeat' (first | exact trivial | exact rfl | refine And.intro ?_ ?_))⟩⟩
        refine ⟨?_⟩
        rintro ⟨k, ops⟩ ⟨e1, e2, e3, e4⟩
        dsimp only at e1 e2 e3 e4
        dsimp only [slP, obP, zeroM, mb, ob5, nilA, List.map, List.length_cons, List.length_nil, List.length_map]
        repeat' (first | (refine app_consm (f := optsRow) ops rfl ?_) | refine o1 ?_ | refine o2 ?_ | refine k2 ?_ | refine And.intro ?_ ?_ | (refine (?_ : srcLen _ = rowsLen _); rfl) | refine eqv_wrap (by omega) (by omega) ?_ | (refine (?_ : _ ≤ 140737488355328); simp [rowsLen] <;> omega) | (refine (?_ : _ ≤ 9223372036854775807); simp [rowsLen] <;> omega) | (refine (?_ : _ = rowsLen _); simp [rowsLen] <;> omega) | fail)
        exact ⟨(n - 1, k, c0 :: (cls ++ [ops])), ⟨by show n - 1 + List.length _ ≤ 5; simp; try omega, e1, all_app (l := c0 :: cls) c3 (show ClsQ r ops from ⟨e2, e3, e4⟩)⟩, (by show n - 1 < n; omega), back [0, 1, 2, 5] rfl rfl (by repeat' (first | exact trivial | exact rfl | refine And.intro ?_ ?_)) ⟨slot_eq rfl (congrArg (vint .i64) (by show _ = ((n - 1 : Nat) : Int); omega)), (by repeat' (first | exact trivial | exact rfl | refine And.intro ?_ ?_))⟩⟩
  · exact later
end Go.Proofs.YtihpjcmloecaaaaGreat.Cw
/-
  Made models: the walk, pairs.
-/
namespace Go.Proofs.YtihpjcmloecaaaaGreat.Cw
open Go.Cw Go.Proofs
set_option linter.unusedVariables false
set_option maxRecDepth 100000
set_option maxHeartbeats 30000000
theorem stageC {Q : Exit → Slots → Heap → Prop} {rest : Code} (t : List Int) (ht : t.length ≤ 400) (a b : Int) (r : Int) (r1 : 1 ≤ r) (r2 : r ≤ 4) (k : Nat) (cls : List (List Opt)) (s1 : k ≤ t.length) (s2 : cls.length ≤ 5) (hcls : ∀ l ∈ cls, ClsQ r l)
    (later : Later (∀ x : Nat × List Pair, (x.1 ≤ t.length ∧ (∀ j, j < x.2.length → pairAt ⟨cls, x.2, [], r⟩ j) ∧ x.2.length ≤ 200) → forceH [dice t x.1, zeroM, mb (.pv (.sl 1 (cls.map optsRow))) (.pv (.sl 4 (x.2.map Pair.row))) nilA r] fun H1 => xCode Tryz.prog T 199 1 rest Q ([] ++ [(7, .ptr 2 4 0 0), (6, .ptr (0 + 1) 4 0 0), (0, .ptr 0 2 0 0), (0 + 1, vint .i64 a), (0 + 1 + 1, vint .i64 b)]) H1)) :
    xCode Tryz.prog T 199 1 (.seq codeC rest) Q ([] ++ [(7, .ptr 2 4 0 0), (6, .ptr (0 + 1) 4 0 0), (0, .ptr 0 2 0 0), (0 + 1, vint .i64 a), (0 + 1 + 1, vint .i64 b)]) [dice t k, zeroM, mb (.pv (.sl 1 (cls.map optsRow))) nilA nilA r] := by
  show xCode _ _ _ _ (.seq (.seq (.region 18 _ _) _) rest) _ _ _
  dsimp only [zeroM, mb, nilA]
  repeat' (first | (refine join_in (a := .seq (.region 18 _ _) _) (fun _ => []) (fun x : Nat × List Pair => [dice t x.1, zeroM, mb (.pv (.sl 1 (cls.map optsRow))) (.pv (.sl 4 (x.2.map Pair.row))) nilA r]) (fun x => x.1 ≤ t.length ∧ (∀ j, j < x.2.length → pairAt ⟨cls, x.2, [], r⟩ j) ∧ x.2.length ≤ 200) ?_) | refine o1 ?_ | refine o2 ?_ | refine k1 ?_ | refine k2 ?_ | refine k4 ?_ | refine And.intro ?_ ?_ | fail)
  · refine loop_for (fun x : Nat × Nat × List Pair => [(7, .ptr 2 4 0 0), (6, .ptr (0 + 1) 4 0 0), (0, .ptr 0 2 0 0), (0 + 1, vint .i64 a), (0 + 1 + 1, vint .i64 b), (14, vint .i64 x.1)]) (fun x => [dice t x.2.1, zeroM, mb (.pv (.sl 1 (cls.map optsRow))) (slP 3 4 (x.2.2.map Pair.row)) nilA r, obP 72 4 (x.2.2.map Pair.row)]) (fun x => x.1 ≤ r.toNat ∧ x.2.1 ≤ t.length ∧ PrQ cls r x.2.2 x.1 0 0) (fun x => r.toNat - x.1) (0, k, []) ⟨Nat.zero_le _, s1, PrQ.nil⟩ ?_ ?_
    · refine back [0, 1, 2, 3] rfl rfl ?_ ?_
      · repeat' (first | exact trivial | exact rfl | refine kept_bx ren_bx1 rfl ?_ | refine And.intro ?_ ?_)
      · repeat' (first | exact trivial | exact rfl | refine And.intro ?_ ?_)
    rintro ⟨u, k, prs⟩ ⟨u1, u2, u3⟩
    dsimp only at u1 u2 u3 ⊢
    have ul := u3.len
    dsimp only [zeroM, mb]
    rcases Nat.lt_or_ge u r.toNat with hu | hu
    · have hu1 : (u : Int) < r := by omega
      repeat' (first | (refine fh_ob ?_) | refine o1 ?_ | refine o2 ?_ | refine k1 ?_ | refine k2 ?_ | refine k3 ?_ | refine k4 ?_ | refine k6 ?_ | refine And.intro ?_ ?_ | (intro h; first | exact Bool.noConfusion h | exact nz _ h | exact nl h | (simp at h; done) | (simp at h; first | (exfalso; omega) | skip) | skip) | fail)
      refine loop_for (fun x : Nat × Nat × List Pair => [(7, .ptr 2 4 0 0), (6, .ptr (0 + 1) 4 0 0), (0, .ptr 0 2 0 0), (0 + 1, vint .i64 a), (0 + 1 + 1, vint .i64 b), (14, vint .i64 u), (15, vint .i64 x.1)]) (fun x => [dice t x.2.1, zeroM, mb (.pv (.sl 1 (cls.map optsRow))) (slP 3 4 (x.2.2.map Pair.row)) nilA r, obP 72 4 (x.2.2.map Pair.row)]) (fun x => x.1 ≤ cls.length ∧ x.2.1 ≤ t.length ∧ PrQ cls r x.2.2 u x.1 0) (fun x => cls.length - x.1) (0, k, prs) ⟨Nat.zero_le _, u2, u3⟩ ?_ ?_
      · refine back [0, 1, 2, 3] rfl rfl ?_ ?_
        · repeat' (first | exact trivial | exact rfl | refine kept_ob rfl ?_ | refine kept_bx ren_bx1 rfl ?_ | refine And.intro ?_ ?_)
        · repeat' (first | exact trivial | exact rfl | refine And.intro ?_ ?_)
      rintro ⟨i, k, prs⟩ ⟨i1, i2, i3⟩
      dsimp only at i1 i2 i3 ⊢
      have il := i3.len
      dsimp only [zeroM, mb]
      rcases Nat.lt_or_ge i cls.length with hi1 | hi1
      · repeat' (first | (refine fh_ob ?_) | refine o1 ?_ | refine o2 ?_ | refine k1 ?_ | refine k2 ?_ | refine k3 ?_ | refine k4 ?_ | refine k6 ?_ | refine And.intro ?_ ?_ | (intro h; first | exact Bool.noConfusion h | exact nz _ h | exact nl h | (simp at h; done) | (simp at h; first | (exfalso; omega) | skip) | skip) | refine eqv_len_map ?_ | refine eqv_wrap (by omega) (by omega) ?_ | fail)
        refine loop_for (fun x : Nat × Nat × List Pair => [(7, .ptr 2 4 0 0), (6, .ptr (0 + 1) 4 0 0), (0, .ptr 0 2 0 0), (0 + 1, vint .i64 a), (0 + 1 + 1, vint .i64 b), (14, vint .i64 u), (15, vint .i64 i), (16, vint .i64 x.1)]) (fun x => [dice t x.2.1, zeroM, mb (.pv (.sl 1 (cls.map optsRow))) (slP 3 4 (x.2.2.map Pair.row)) nilA r, obP 72 4 (x.2.2.map Pair.row)]) (fun x => (i < x.1 ∧ x.1 ≤ cls.length) ∧ x.2.1 ≤ t.length ∧ PrQ cls r x.2.2 u i x.1) (fun x => cls.length - x.1) (i + 1, k, prs) ⟨⟨by dsimp only; omega, by dsimp only; omega⟩, i2, i3.toK⟩ ?_ ?_
        · refine back [0, 1, 2, 3] rfl rfl ?_ ?_
          · repeat' (first | exact trivial | exact rfl | refine kept_ob rfl ?_ | refine kept_bx ren_bx1 rfl ?_ | refine And.intro ?_ ?_)
          · repeat' (first | exact trivial | exact rfl | refine And.intro ?_ ?_)
        rintro ⟨kk, k, prs⟩ ⟨⟨j0, j1⟩, j2, j3⟩
        dsimp only at j0 j1 j2 j3 ⊢
        have jl := j3.len
        dsimp only [zeroM, mb]
        rcases Nat.lt_or_ge kk cls.length with hkk | hkk
        · obtain ⟨la, hla⟩ := getE hi1
          obtain ⟨lb, hlb⟩ := getE hkk
          have hq1 := hcls la (List.mem_of_getElem? hla)
          have hq2 := hcls lb (List.mem_of_getElem? hlb)
          have hab : la.length * lb.length ≤ 16 := Nat.mul_le_mul hq1.2.1 hq2.2.1
          have hcast : ((la.length * lb.length : Nat) : Int) = (la.length : Int) * lb.length := by simp
          have hb1 : ((prs.map Pair.row).length + 1) * 48 ≤ 140737488355328 := by rw [List.length_map]; omega
          have hb2 : (prs.map Pair.row).length + 1 ≤ 9223372036854775807 := by rw [List.length_map]; omega
          repeat' (first | (refine fh_ob ?_) | (refine idx_sl (k := i) (at_map hla) (by omega) ?_) | (refine idx_sl (k := kk) (at_map hlb) (by omega) ?_) | (refine eqv_to ((la.length * lb.length : Nat) : Int) (by rw [hcast]; exact wrap64 (by omega) (by omega)) ?_) | refine o1 ?_ | refine o2 ?_ | refine k1 ?_ | refine k2 ?_ | refine k3 ?_ | refine k4 ?_ | refine k6 ?_ | refine And.intro ?_ ?_ | refine o3 ?_ | refine o4 ?_ | (intro h; first | exact Bool.noConfusion h | exact nz _ h | exact nl h | (simp at h; done) | (simp at h; first | (exfalso; omega) | skip) | skip) | exact (by kernel_rfl : drawOk _ _ = true) | refine eqv_len_map ?_ | refine eqv_wrap (by omega) (by omega) ?_ | (change vcFun _ _ _ _ _; refine call_one2 0 rfl (by assumption) (by assumption) (by omega) (by omega) ?_; intro bq kq hkq) | fail)
          · refine loop_for (fun x : Nat × Nat × List Int => [(7, .ptr 2 4 0 0), (6, .ptr (0 + 1) 4 0 0), (0, .ptr 0 2 0 0), (0 + 1, vint .i64 a), (0 + 1 + 1, vint .i64 b), (14, vint .i64 u), (15, vint .i64 i), (16, vint .i64 kk), (17, .ptr 4 4 0 0), (18, vint .i64 x.1)]) (fun x => [dice t x.2.1, zeroM, mb (.pv (.sl 1 (cls.map optsRow))) (slP 3 4 (prs.map Pair.row)) nilA r, obP 72 4 (prs.map Pair.row), pb4 i kk u (slP 5 1 (x.2.2.map fun n => [ei n])), obP 3 1 (x.2.2.map fun n => [ei n])]) (fun x => x.1 + x.2.2.length = la.length * lb.length ∧ x.2.1 ≤ t.length ∧ ∀ y ∈ x.2.2, y = 0 ∨ priceP y) (fun x => x.1) (la.length * lb.length, kq, []) ⟨by simp, hkq, fun y hy => absurd hy List.not_mem_nil⟩ ?_ ?_
            · refine back [0, 1, 2, 3, 4, 5] rfl rfl ?_ ?_
              · repeat' (first | exact trivial | exact rfl | refine kept_ob rfl ?_ | refine kept_bx ren_bx3 rfl ?_ | refine kept_bx ren_bx1 rfl ?_ | refine And.intro ?_ ?_)
              · repeat' (first | exact trivial | exact rfl | refine And.intro ?_ ?_)
            rintro ⟨j, k, tb⟩ ⟨t1, t2, t3⟩
            dsimp only at t1 t2 t3 ⊢
            dsimp only [zeroM, mb, pb4]
            rcases Nat.eq_zero_or_pos j with rfl | hj
            · refine forceH_in ?_
              refine ghost_seq (Γ' := [(7, .ptr 2 4 0 0), (6, .ptr (0 + 1) 4 0 0), (0, .ptr 0 2 0 0), (0 + 1, vint .i64 a), (0 + 1 + 1, vint .i64 b), (14, vint .i64 u), (15, vint .i64 i), (16, vint .i64 kk), (17, .ptr 4 4 0 0), (18, vint .i64 (0 : Nat))]) (H' := [dice t k, zeroM, mb (.pv (.sl 1 (cls.map optsRow))) (slP 3 4 (prs.map Pair.row)) nilA r, obP 72 4 (prs.map Pair.row), pb4 i kk u (.pv (.sl 1 (tb.map fun n => [ei n])))]) (Ghost.shut_sl (i := 4) (c := 3) (id := 5) rfl rfl rfl (by decide) fun H' hl h2 hH => ?_) ?_
              · refine back [0, 1, 2, 3, 4] rfl rfl ⟨hH 0 (by decide) (by decide), hH 1 (by decide) (by decide), kept_bx ren_bx1 (hH 2 (by decide) (by decide)) (kept_ob (hH 3 (by decide) (by decide)) ⟨h2, trivial⟩)⟩ ?_
                repeat' (first | exact trivial | exact rfl | refine And.intro ?_ ?_)
              dsimp only [zeroM, mb, pb4]
              repeat' (first | (refine fv_sl ?_) | (refine fh_ob ?_) | ((refine o_app rfl rfl rfl rfl rfl rfl rfl rfl rfl rfl rfl hb1 hb2 ?_)) | refine o1 ?_ | refine o2 ?_ | refine k1 ?_ | refine k2 ?_ | refine k3 ?_ | refine k8 ?_ | refine And.intro ?_ ?_ | (intro h; first | exact Bool.noConfusion h | exact nz _ h | exact nl h | (simp at h; done) | (simp at h; first | (exfalso; omega) | skip) | skip) | refine eqv_wrap (by omega) (by omega) ?_ | fail)
              refine ⟨(kk + 1, k, prs ++ [⟨i, kk, u, tb⟩]), ⟨⟨by dsimp only; omega, by dsimp only; omega⟩, t2, j3.app (pair_made hla hlb j0 hu1 (by omega) t3)⟩, by dsimp only; omega, ?_⟩
              dsimp only
              rw [map_snoc, sl_app, ob_app]
              refine back [0, 1, 2, 6] rfl rfl ?_ ?_
              · repeat' (first | exact trivial | exact rfl | refine And.intro ?_ ?_)
              · repeat' (first | exact trivial | exact rfl | refine And.intro ?_ ?_)
            have hb3 : ((tb.map fun n => [ei n]).length + 1) * 8 ≤ 140737488355328 := by rw [List.length_map]; omega
            have hb4 : (tb.map fun n => [ei n]).length + 1 ≤ 9223372036854775807 := by rw [List.length_map]; omega
            repeat' (first | (refine fv_sl ?_) | (refine fh_ob ?_) | ((change vcFunD _ _ _ _ _; refine callD_cost 0 rfl (by assumption) (by assumption) ?_; intro cn kc hcn hkc)) | ((refine o_appD rfl rfl rfl rfl rfl rfl rfl rfl rfl rfl rfl hb3 hb4 ?_)) | refine o1 ?_ | refine o2 ?_ | refine k1 ?_ | refine k2 ?_ | refine k3 ?_ | refine k4 ?_ | refine k6 ?_ | refine And.intro ?_ ?_ | refine o3 ?_ | refine o4 ?_ | (intro h; first | exact Bool.noConfusion h | exact nz _ h | exact nl h | (simp at h; done) | (simp at h; first | (exfalso; omega) | skip) | skip) | exact (by kernel_rfl : drawOk _ _ = true) | refine eqv_wrap (by omega) (by omega) ?_ | fail)
            all_goals
              refine ⟨(j - 1, kc, tb ++ [cn]), ⟨by dsimp only; rw [List.length_append]; simp only [List.length_cons, List.length_nil]; omega, hkc, all_app t3 hcn⟩, by dsimp only; omega, ?_⟩
              dsimp only
              rw [map_snoc, sl_app, ob_app]
              refine back [0, 1, 2, 3, 4, 7] rfl rfl ?_ ⟨rfl, rfl, rfl, rfl, rfl, rfl, rfl, rfl, rfl, slot_eq rfl (congrArg (vint .i64) (by show _ = ((j - 1 : Nat) : Int); omega)), trivial⟩
              repeat' (first | exact trivial | exact rfl | refine kept_ob rfl ?_ | refine kept_bx ren_bx1 rfl ?_ | refine And.intro ?_ ?_)
          · refine ⟨(kk + 1, kq, prs), ⟨⟨by dsimp only; omega, by dsimp only; omega⟩, hkq, j3.skip⟩, by dsimp only; omega, ?_⟩
            dsimp only
            refine back [0, 1, 2, 3] rfl rfl ?_ ?_
            · repeat' (first | exact trivial | exact rfl | refine kept_ob rfl ?_ | refine kept_bx ren_bx1 rfl ?_ | refine And.intro ?_ ?_)
            · repeat' (first | exact trivial | exact rfl | refine And.intro ?_ ?_)
        · obtain rfl : kk = cls.length := by omega
          repeat' (first | (refine fh_ob ?_) | refine o1 ?_ | refine o2 ?_ | refine k1 ?_ | refine k2 ?_ | refine k3 ?_ | refine k8 ?_ | refine And.intro ?_ ?_ | (intro h; first | exact Bool.noConfusion h | exact nz _ h | exact nl h | (simp at h; done) | (simp at h; first | (exfalso; omega) | skip) | skip) | refine eqv_len_map ?_ | refine eqv_wrap (by omega) (by omega) ?_ | fail)
          refine ⟨(i + 1, k, prs), ⟨by dsimp only; omega, j2, j3.toI (by omega)⟩, by dsimp only; omega, ?_⟩
          dsimp only
          refine back [0, 1, 2, 3] rfl rfl ?_ ?_
          · repeat' (first | exact trivial | exact rfl | refine kept_ob rfl ?_ | refine kept_bx ren_bx1 rfl ?_ | refine And.intro ?_ ?_)
          · repeat' (first | exact trivial | exact rfl | refine And.intro ?_ ?_)
      · obtain rfl : i = cls.length := by omega
        repeat' (first | (refine fh_ob ?_) | refine o1 ?_ | refine o2 ?_ | refine k1 ?_ | refine k2 ?_ | refine k3 ?_ | refine k8 ?_ | refine And.intro ?_ ?_ | (intro h; first | exact Bool.noConfusion h | exact nz _ h | exact nl h | (simp at h; done) | (simp at h; first | (exfalso; omega) | skip) | skip) | refine eqv_len_map ?_ | refine eqv_wrap (by omega) (by omega) ?_ | fail)
        refine ⟨(u + 1, k, prs), ⟨by dsimp only; omega, i2, i3.toU (by omega)⟩, by dsimp only; omega, ?_⟩
        dsimp only
        refine back [0, 1, 2, 3] rfl rfl ?_ ?_
        · repeat' (first | exact trivial | exact rfl | refine kept_ob rfl ?_ | refine kept_bx ren_bx1 rfl ?_ | refine And.intro ?_ ?_)
        · repeat' (first | exact trivial | exact rfl | refine And.intro ?_ ?_)
    · obtain rfl : u = r.toNat := by omega
      refine forceH_in ?_
      refine ghost_seq (Γ' := [(7, .ptr 2 4 0 0), (6, .ptr (0 + 1) 4 0 0), (0, .ptr 0 2 0 0), (0 + 1, vint .i64 a), (0 + 1 + 1, vint .i64 b), (14, vint .i64 r.toNat)]) (H' := [dice t k, zeroM, mb (.pv (.sl 1 (cls.map optsRow))) (.pv (.sl 4 (prs.map Pair.row))) nilA r]) (Ghost.shut_sl (i := 2) (c := 1) (id := 3) rfl rfl rfl (by decide) fun H' hl h2 hH => ?_) ?_
      · refine back [0, 1, 2] rfl rfl ⟨hH 0 (by decide) (by decide), hH 1 (by decide) (by decide), h2, trivial⟩ ?_
        repeat' (first | exact trivial | exact rfl | refine And.intro ?_ ?_)
      dsimp only [zeroM, mb]
      repeat' (first | refine o1 ?_ | refine o2 ?_ | refine k1 ?_ | refine k2 ?_ | refine k3 ?_ | refine k8 ?_ | refine And.intro ?_ ?_ | (intro h; first | exact Bool.noConfusion h | exact nz _ h | exact nl h | (simp at h; done) | (simp at h; first | (exfalso; omega) | skip) | skip) | fail)
      exact ⟨(k, prs), ⟨u2, u3.at_, by dsimp only; omega⟩, back [0, 1, 2] rfl rfl (by repeat' (first | exact trivial | exact rfl | refine And.intro ?_ ?_)) (by repeat' (first | exact trivial | exact rfl | refine And.intro ?_ ?_))⟩
  · exact later
end Go.Proofs.YtihpjcmloecaaaaGreat.Cw
