/-
  Part 5 of the proof (SY6, SY7, SLK, SY8, SY9, SYA, SB3, SB4, SYB, SYC, SYD, SYF, SYG, SYH, SYI): what later parts use. No conditions.
-/
import Derived.Laws.AppendOwn
import Derived.WalkKit
import Derived.Deep.LoopGhost
import Derived.Lib.Walk
import Derived.Lib.SliceRun
import Derived.Shelf.RegionOpenPlain
import Derived.Test.YtihpjcmloecaaaaGreatMK4
namespace Go.Proofs.YtihpjcmloecaaaaGreat.Cw
open Go Go.Cw Go.Proofs
set_option linter.unusedVariables false
set_option maxRecDepth 100000
set_option maxHeartbeats 8000000
theorem ziT {α : Type} {a b : List α} (hl : a.length = b.length) (h : ∀ j, j < a.length → ∀ x y, a[j]? = some x → b[j]? = some y → x = y) : a = b := by
 apply List.ext_getElem hl
 intro j h1 h2
 exact h j h1 _ _ (List.getElem?_eq_getElem h1) (List.getElem?_eq_getElem h2)
theorem zks {x y : Charge} (h1 : x.rule = y.rule) (h2 : x.cost = y.cost) : x = y := by
 obtain ⟨a, b⟩ := x
 obtain ⟨c, d⟩ := y
 simp only at h1 h2
 subst h1; subst h2; rfl
theorem zpJ (a b : List Charge) (ha : a.length ≤ 2199023255552) (hb : b.length ≤ 2199023255552) : zH Tryz.prog 112 [.pv (.sl 2 (a.map Charge.row)), .pv (.sl 2 (b.map Charge.row))] (fun r => r = zo (pB (a = b))) := by
 refine zh tok mixed 26 rfl (fn := Tryz.f112) (c := Tryz.f112.body.getD .skip) (by kernel_rfl) (by kernel_rfl) (by kernel_rfl) rfl 0 rfl ?_
 repeat' (first | refine o1 ?_ | refine o2 ?_ | refine k1 ?_ | refine k2 ?_ | refine k3 ?_ | refine k4 ?_ | refine k6 ?_ | refine k7 ?_ | refine And.intro ?_ ?_ | (intro h; first | exact Bool.noConfusion h | exact nz _ h | exact nl h | (simp at h; done) | (simp at h; first | (exfalso; omega) | skip) | skip) | (change zx _ _ _ _; refine zd rfl trivial ?_) | refine za ?_ | fail)
 · exact congrArg zo (zaj fun e => by subst e; simp_all).symm
 · have hl : a.length = b.length := by omega
   refine qu (fun i : Nat => [(13, zg .i64 i)]) (fun _ => []) (fun i => i ≤ a.length ∧ ∀ j, j < i → ∀ x y, a[j]? = some x → b[j]? = some y → x = y) (fun i => a.length - i) 0 ⟨Nat.zero_le _, fun j hj => by omega⟩ (by repeat' (first | exact trivial | exact ⟨_, rfl, ALe.refl⟩ | refine And.intro ?_ ?_)) (by repeat' (first | exact trivial)) ?_
   intro i ⟨hi, hall⟩
   rcases Nat.lt_or_ge i a.length with hlt | hge
   · obtain ⟨x, hx⟩ := qj hlt
     obtain ⟨y, hy⟩ := qj (show i < b.length by omega)
     repeat' (first | refine o1 ?_ | refine o2 ?_ | refine k1 ?_ | refine k2 ?_ | refine k3 ?_ | refine k4 ?_ | refine k6 ?_ | refine k7 ?_ | refine And.intro ?_ ?_ | refine o3 ?_ | refine o4 ?_ | (intro h; first | exact Bool.noConfusion h | exact nz _ h | exact nl h | (simp at h; done) | (simp at h; first | (exfalso; omega) | skip) | skip) | (change zx _ _ _ _; refine zd rfl trivial ?_) | exact (by kernel_rfl : zn _ _ = true) | refine zc (by omega) (by omega) ?_ | refine ⟨_, _, (by first | rfl | assumption), zf (by assumption), ?_⟩ | fail)
     · exact congrArg zo (zaj fun e => by
        subst e
        rw [hx] at hy; injection hy with hy; subst hy
        rename_i h
        rcases h with h | h <;> exact h rfl).symm
     · rename_i h
       exact ⟨i + 1, ⟨by omega, zz hall fun x' y' q1 q2 => by rw [hx] at q1; cases q1; rw [hy] at q2; cases q2; exact zks h.1 h.2⟩, by omega, zJ [] rfl rfl trivial (by repeat' (first | exact trivial | exact rfl | refine And.intro ?_ ?_))⟩
   · repeat' (first | refine o1 ?_ | refine o2 ?_ | refine k1 ?_ | refine k2 ?_ | refine k3 ?_ | refine k7 ?_ | refine k8 ?_ | refine And.intro ?_ ?_ | (intro h; first | exact Bool.noConfusion h | exact nz _ h | exact nl h | (simp at h; done) | (simp at h; first | (exfalso; omega) | skip) | skip) | (change zx _ _ _ _; refine zd rfl trivial ?_) | fail)
     exact congrArg zo (zaS (ziT hl fun j hj => hall j (by omega))).symm
theorem zan {l : List Opt} {i : Nat} {r : Int} {E : List Ent} {H : zt} {K : AV → zt → Prop} (k : Nat) (hE : E = zbC l l.length) (hH : H[k]? = some (zgN 85 E)) (hl : l.length ≤ 1000) (hi : i < l.length) (hK : K (imgA (za3 l i r)) H) :
  zp Tryz.prog 46 [.mp k, .pv (.sl 6 (l.map Opt.row)), zg .i64 i, zg .i64 r] H K := by
 subst hE
 refine qX (i := k) (o := ⟨85, 1, false, .mp (.arr 5) .i64 (zcm 0 (zbC l l.length)) (zbC l l.length).length⟩) hH (fun d rn => zda xx) [.mp 0, .pv (.sl 6 (l.map Opt.row)), zg .i64 i, zg .i64 r] rfl (c_image l i r hl hi) ?_
 rintro a H' ⟨rfl, rfl⟩
 refine ⟨_, rfl, fun _ _ => zda xx, fun _ _ => ?_, ?_⟩
 · cases za3 l i r <;> rfl
 · have hs : H.set k (zgN 85 (zbC l l.length)) = H := by
    apply List.ext_getElem?
    intro j
    rw [List.getElem?_set]
    split
    · rename_i e; subst e
      rw [if_pos (List.getElem?_eq_some_iff.1 hH).1, hH]
    · rfl
   show K _ (H.set k (zgN 85 (zbC l l.length)))
   rw [hs]; exact hK
theorem zif {l : List Opt} {H : zt} {K : AV → zt → Prop} (hl : l.length ≤ 1000) (hK : K (.mp H.length) (H ++ [zgN 85 (zbC l l.length)])) : zp Tryz.prog 45 [.pv (.sl 6 (l.map Opt.row))] H K := by
 refine zaL [] [] [.pv (.sl 6 (l.map Opt.row))] rfl trivial rfl (zpG l hl) fun r Hc' hp => ?_
 obtain ⟨rfl, rfl⟩ := hp
 refine ⟨Nat.zero_le _, ?_⟩
 simp only [List.length_cons, List.length_nil, Nat.sub_zero, List.nil_append]
 have he : qE 0 (zbx H.length 1) (zgN 85 (zbC l l.length)) = zgN 85 (zbC l l.length) := by
  show some (zd8 _ _ _) = some _
  rw [zda xx]
 show K (.mp H.length) (H ++ [qE _ _ (zgN 85 (zbC l l.length))])
 have hr : ∀ d rn, qE d rn (zgN 85 (zbC l l.length)) = zgN 85 (zbC l l.length) := fun d rn => by
  show some (zd8 _ _ _) = some _
  rw [zda xx]
 rw [hr]; exact hK
theorem zcC {ty d i : Nat} {H Hc : zt} {rn l : List Nat} {E : List Ent} (h : H[i]? = some (zgN ty E)) (hk : zaz H d rn l Hc) : zaz H d rn (i :: l) (zgN ty E :: Hc) :=
 ⟨(by show _ = some (some (zd8 _ _ _)); rw [zda xx]; exact h), hk⟩
theorem exch_a {r a b : Int} (h : r = a) : zfA r a b = b := by unfold zfA; rw [if_pos h]
theorem exch_b {r a b : Int} (h : ¬ r = a) (hb : r = b) : zfA r a b = a := by unfold zfA; rw [if_neg h, if_pos hb]
theorem exch_n {r a b : Int} (h : ¬ r = a) (hb : ¬ r = b) : zfA r a b = r := by unfold zfA; rw [if_neg h, if_neg hb]
theorem zbQ {l : List Opt} {a b r : Int} {i : Nat} {o : Opt} (h : l[i]? = some o) (he : zfA o.place.room a b = r) : zc3 l a b i = za3 l i r := by unfold zc3; rw [h]; dsimp only; rw [he]
theorem zfe {l : List Opt} {a b : Int} {i : Nat} (hi : i < l.length) (h : ¬ okO l a b i) : ¬ zcX l a b := fun k => h (k i hi)
theorem zld {l : List Opt} {a b : Int} {i : Nat} (h : zc3 l a b i = none) : ¬ okO l a b i := fun ⟨j, o, q, h1, _⟩ => by rw [h] at h1; cases h1
theorem ok_ne {l : List Opt} {a b : Int} {i j : Nat} {o q : Opt} (h : zc3 l a b i = some j) (ho : l[i]? = some o) (hq : l[j]? = some q) (hne : ¬ o.charges = q.charges) : ¬ okO l a b i := fun ⟨j', o', q', h1, h2, h3, h4⟩ => by
 rw [h] at h1; cases h1
 rw [ho] at h2; cases h2
 rw [hq] at h3; cases h3
 exact hne h4
theorem zmp {l : List Opt} {a b : Int} (h : ¬ zcX l a b) : Leq (.tup [.pv (.val (.slice none 0 0)), .pv (.val (.bool false))]) (.tup [.pv (.sl 1 ((zlp l a b).map qG)), zo (pB (zcX l a b))]) := by
 unfold zlp
 rw [if_neg (by rw [zaj h]; simp), zaj h]
 exact ⟨ALe.tup ⟨ALe.pv PLe.nil, ALe.refl, trivial⟩⟩
theorem zpI (l : List Opt) (a b : Int) (hl : l.length ≤ 1000) (hch : ∀ o ∈ l, o.charges.length ≤ 2199023255552) : zH Tryz.prog 81 [.pv (.sl 6 (l.map Opt.row)), zg .i64 a, zg .i64 b] (fun r => Leq r (.tup [.pv (.sl 1 ((zlp l a b).map qG)), zo (pB (zcX l a b))])) := by
 refine zh tok mixed 69 rfl (fn := Tryz.f81) (c := Tryz.f81.body.getD .skip) (by kernel_rfl) (by kernel_rfl) (by kernel_rfl) rfl 0 rfl ?_
 repeat' (first | ((change zp _ _ _ _ _; refine zif hl ?_)) | refine o1 ?_ | refine o2 ?_ | refine k1 ?_ | refine k2 ?_ | refine k4 ?_ | refine za ?_ | fail)
 generalize hE : zbC l l.length = E
 refine zB (fun i : Nat => [(0, .pv (.sl 6 (l.map Opt.row))), (1, zg .i64 a), (2, zg .i64 b), (8, .mp 0), (9, .ms 1 1 0 i), (17, .pv (.sl 6 (l.map Opt.row))), (18, zg .i64 l.length), (19, zg .i64 i)]) (fun i => [zgN 85 E, some ⟨3, 1, false, .p ((xC l a b i).map qG)⟩]) (fun i => i ≤ l.length ∧ (xC l a b i).length = i ∧ ∀ j, j < i → okO l a b j) (fun i => l.length - i) 0 ⟨Nat.zero_le _, rfl, fun j hj => by omega⟩ ?_ ?_
 · exact zJ [0, 1] rfl rfl (zcC rfl ⟨rfl, trivial⟩) (by repeat' (first | exact trivial | exact rfl | refine And.intro ?_ ?_))
 intro i ⟨hi, hil, hall⟩
 rcases Nat.lt_or_ge i l.length with hlt | hge
 · obtain ⟨o, ho⟩ := qj hlt
   by_cases hra : o.place.room = a
   · have hsw := zbQ (a := a) (b := b) ho (exch_a hra)
     rcases hj : za3 l i b with _ | j
     · rw [hj] at hsw
       have hno := zfe hlt (zld hsw)
       repeat' (first | ((change zp _ _ _ _ _; refine zan 0 hE.symm rfl hl hlt ?_; rw [hj])) | refine o1 ?_ | refine o2 ?_ | refine k1 ?_ | refine k2 ?_ | refine k3 ?_ | refine k4 ?_ | refine k6 ?_ | refine k7 ?_ | refine And.intro ?_ ?_ | refine o3 ?_ | refine o4 ?_ | (intro h; first | exact Bool.noConfusion h | exact nz _ h | exact nl h | (simp at h; done) | (simp at h; first | (exfalso; omega) | skip) | skip) | (change zx _ _ _ _; refine zd rfl trivial ?_) | exact (by kernel_rfl : zn _ _ = true) | refine ⟨_, _, (by first | rfl | assumption), zf (by assumption), ?_⟩ | fail)
       all_goals first
        | (exfalso; omega)
        | exact zmp hno
     · rw [hj] at hsw
       obtain ⟨q, hq⟩ := qj (zmu hj)
       have heq := zpJ o.charges q.charges (hch o (List.mem_of_getElem? ho)) (hch q (List.mem_of_getElem? hq))
       by_cases hcc : o.charges = q.charges
       · rw [zaS hcc] at heq
         repeat' (first | ((change zp _ _ _ _ _; refine zan 0 hE.symm rfl hl hlt ?_; rw [hj])) | (refine zj (k := j) (zf hq) rfl ?_) | refine o1 ?_ | refine o2 ?_ | refine k1 ?_ | refine k2 ?_ | refine k3 ?_ | refine k4 ?_ | refine k6 ?_ | refine And.intro ?_ ?_ | refine o3 ?_ | refine o4 ?_ | (intro h; first | exact Bool.noConfusion h | exact nz _ h | exact nl h | (simp at h; done) | (simp at h; first | (exfalso; omega) | skip) | skip) | (refine (?_ : z8 _ = zb _); rfl) | exact (by kernel_rfl : zn _ _ = true) | refine zc (by omega) (by omega) ?_ | refine ⟨_, _, (by first | rfl | assumption), zf (by assumption), ?_⟩ | (refine (?_ : _ ≤ 140737488355328); simp [zb] <;> omega) | (refine (?_ : _ ≤ 9223372036854775807); simp [zb] <;> omega) | (refine (?_ : _ = zb _); simp [zb] <;> omega) | refine zi _ (qK rfl) (zi _ qY ?_) | (change zI _ _ _ _ _; refine zF rfl (by repeat' (first | trivial | refine And.intro ?_ ?_ | (show 0 + _ ≤ List.length _; simp))) zW.refl (heq) rfl ?_) | fail)
         all_goals first
          | (exfalso; omega)
          | (have hln : (xC l a b i ++ [j]).length = i + 1 := by rw [List.length_append, hil]; rfl
             refine ⟨i + 1, ⟨hlt, by rw [zaV hsw]; exact hln, zz hall ⟨j, o, q, hsw, ho, hq, hcc⟩⟩, by omega, ?_⟩
             rw [zaV hsw, hln]
             exact zJ [0, 4] rfl rfl (zcC rfl ⟨rfl, trivial⟩) (by repeat' (first | exact trivial | exact rfl | refine And.intro ?_ ?_)))
       · rw [zaj hcc] at heq
         have hno := zfe hlt (ok_ne hsw ho hq hcc)
         repeat' (first | ((change zp _ _ _ _ _; refine zan 0 hE.symm rfl hl hlt ?_; rw [hj])) | (refine zj (k := j) (zf hq) rfl ?_) | refine o1 ?_ | refine o2 ?_ | refine k1 ?_ | refine k2 ?_ | refine k3 ?_ | refine k4 ?_ | refine k6 ?_ | refine k7 ?_ | refine And.intro ?_ ?_ | refine o3 ?_ | refine o4 ?_ | (intro h; first | exact Bool.noConfusion h | exact nz _ h | exact nl h | (simp at h; done) | (simp at h; first | (exfalso; omega) | skip) | skip) | (change zx _ _ _ _; refine zd rfl trivial ?_) | exact (by kernel_rfl : zn _ _ = true) | refine ⟨_, _, (by first | rfl | assumption), zf (by assumption), ?_⟩ | (change zI _ _ _ _ _; refine zF rfl (by repeat' (first | trivial | refine And.intro ?_ ?_ | (show 0 + _ ≤ List.length _; simp))) zW.refl (heq) rfl ?_) | fail)
         all_goals first
          | (exfalso; omega)
          | exact zmp hno
   · by_cases hrb : o.place.room = b
     · have hsw := zbQ (a := a) (b := b) ho (exch_b hra hrb)
       rcases hj : za3 l i a with _ | j
       · rw [hj] at hsw
         have hno := zfe hlt (zld hsw)
         repeat' (first | ((change zp _ _ _ _ _; refine zan 0 hE.symm rfl hl hlt ?_; rw [hj])) | refine o1 ?_ | refine o2 ?_ | refine k1 ?_ | refine k2 ?_ | refine k3 ?_ | refine k4 ?_ | refine k6 ?_ | refine k7 ?_ | refine And.intro ?_ ?_ | refine o3 ?_ | refine o4 ?_ | (intro h; first | exact Bool.noConfusion h | exact nz _ h | exact nl h | (simp at h; done) | (simp at h; first | (exfalso; omega) | skip) | skip) | (change zx _ _ _ _; refine zd rfl trivial ?_) | exact (by kernel_rfl : zn _ _ = true) | refine ⟨_, _, (by first | rfl | assumption), zf (by assumption), ?_⟩ | fail)
         all_goals first
          | (exfalso; omega)
          | exact zmp hno
       · rw [hj] at hsw
         obtain ⟨q, hq⟩ := qj (zmu hj)
         have heq := zpJ o.charges q.charges (hch o (List.mem_of_getElem? ho)) (hch q (List.mem_of_getElem? hq))
         by_cases hcc : o.charges = q.charges
         · rw [zaS hcc] at heq
           repeat' (first | ((change zp _ _ _ _ _; refine zan 0 hE.symm rfl hl hlt ?_; rw [hj])) | (refine zj (k := j) (zf hq) rfl ?_) | refine o1 ?_ | refine o2 ?_ | refine k1 ?_ | refine k2 ?_ | refine k3 ?_ | refine k4 ?_ | refine k6 ?_ | refine And.intro ?_ ?_ | refine o3 ?_ | refine o4 ?_ | (intro h; first | exact Bool.noConfusion h | exact nz _ h | exact nl h | (simp at h; done) | (simp at h; first | (exfalso; omega) | skip) | skip) | (refine (?_ : z8 _ = zb _); rfl) | exact (by kernel_rfl : zn _ _ = true) | refine zc (by omega) (by omega) ?_ | refine ⟨_, _, (by first | rfl | assumption), zf (by assumption), ?_⟩ | (refine (?_ : _ ≤ 140737488355328); simp [zb] <;> omega) | (refine (?_ : _ ≤ 9223372036854775807); simp [zb] <;> omega) | (refine (?_ : _ = zb _); simp [zb] <;> omega) | refine zi _ (qK rfl) (zi _ qY ?_) | (change zI _ _ _ _ _; refine zF rfl (by repeat' (first | trivial | refine And.intro ?_ ?_ | (show 0 + _ ≤ List.length _; simp))) zW.refl (heq) rfl ?_) | fail)
           all_goals first
            | (exfalso; omega)
            | (have hln : (xC l a b i ++ [j]).length = i + 1 := by rw [List.length_append, hil]; rfl
               refine ⟨i + 1, ⟨hlt, by rw [zaV hsw]; exact hln, zz hall ⟨j, o, q, hsw, ho, hq, hcc⟩⟩, by omega, ?_⟩
               rw [zaV hsw, hln]
               exact zJ [0, 4] rfl rfl (zcC rfl ⟨rfl, trivial⟩) (by repeat' (first | exact trivial | exact rfl | refine And.intro ?_ ?_)))
         · rw [zaj hcc] at heq
           have hno := zfe hlt (ok_ne hsw ho hq hcc)
           repeat' (first | ((change zp _ _ _ _ _; refine zan 0 hE.symm rfl hl hlt ?_; rw [hj])) | (refine zj (k := j) (zf hq) rfl ?_) | refine o1 ?_ | refine o2 ?_ | refine k1 ?_ | refine k2 ?_ | refine k3 ?_ | refine k4 ?_ | refine k6 ?_ | refine k7 ?_ | refine And.intro ?_ ?_ | refine o3 ?_ | refine o4 ?_ | (intro h; first | exact Bool.noConfusion h | exact nz _ h | exact nl h | (simp at h; done) | (simp at h; first | (exfalso; omega) | skip) | skip) | (change zx _ _ _ _; refine zd rfl trivial ?_) | exact (by kernel_rfl : zn _ _ = true) | refine ⟨_, _, (by first | rfl | assumption), zf (by assumption), ?_⟩ | (change zI _ _ _ _ _; refine zF rfl (by repeat' (first | trivial | refine And.intro ?_ ?_ | (show 0 + _ ≤ List.length _; simp))) zW.refl (heq) rfl ?_) | fail)
           all_goals first
            | (exfalso; omega)
            | exact zmp hno
     · have hsw := zbQ (a := a) (b := b) ho (exch_n hra hrb)
       rw [img_self ho] at hsw
       have heq := zpJ o.charges o.charges (hch o (List.mem_of_getElem? ho)) (hch o (List.mem_of_getElem? ho))
       rw [zaS rfl] at heq
       repeat' (first | (refine zj (k := i) (zf ho) rfl ?_) | refine o1 ?_ | refine o2 ?_ | refine k1 ?_ | refine k2 ?_ | refine k3 ?_ | refine k4 ?_ | refine k6 ?_ | refine And.intro ?_ ?_ | refine o3 ?_ | refine o4 ?_ | (intro h; first | exact Bool.noConfusion h | exact nz _ h | exact nl h | (simp at h; done) | (simp at h; first | (exfalso; omega) | skip) | skip) | (refine (?_ : z8 _ = zb _); rfl) | exact (by kernel_rfl : zn _ _ = true) | refine zc (by omega) (by omega) ?_ | (refine (?_ : _ ≤ 140737488355328); simp [zb] <;> omega) | (refine (?_ : _ ≤ 9223372036854775807); simp [zb] <;> omega) | (refine (?_ : _ = zb _); simp [zb] <;> omega) | refine zi _ (qK rfl) (zi _ qY ?_) | (change zI _ _ _ _ _; refine zF rfl (by repeat' (first | trivial | refine And.intro ?_ ?_ | (show 0 + _ ≤ List.length _; simp))) zW.refl (heq) rfl ?_) | fail)
       all_goals first
        | (exfalso; omega)
        | (have hln : (xC l a b i ++ [i]).length = i + 1 := by rw [List.length_append, hil]; rfl
           refine ⟨i + 1, ⟨hlt, by rw [zaV hsw]; exact hln, zz hall ⟨i, o, o, hsw, ho, ho, rfl⟩⟩, by omega, ?_⟩
           rw [zaV hsw, hln]
           exact zJ [0, 4] rfl rfl (zcC rfl ⟨rfl, trivial⟩) (by repeat' (first | exact trivial | exact rfl | refine And.intro ?_ ?_)))
 · obtain rfl : i = l.length := by omega
   have hok : zcX l a b := hall
   unfold zlp
   rw [if_pos (zaS hok), zaS hok]
   repeat' (first | refine o1 ?_ | refine o2 ?_ | refine k1 ?_ | refine k2 ?_ | refine k3 ?_ | refine k7 ?_ | refine k8 ?_ | refine And.intro ?_ ?_ | (intro h; first | exact Bool.noConfusion h | exact nz _ h | exact nl h | (simp at h; done) | (simp at h; first | (exfalso; omega) | skip) | skip) | fail)
   change zx _ _ _ _
   refine zd (r0 := .tup [.pv (.sl 1 ((((xC l a b l.length).map qG).drop 0).take l.length)), zo true]) rfl ?_ ?_
   · refine ⟨?_, trivial⟩
     show 0 + l.length ≤ _
     rw [List.length_map, hil]; omega
   · rw [List.drop_zero, List.take_of_length_le (by rw [List.length_map, hil]; exact Nat.le_refl _)]
     exact ⟨ALe.refl⟩
theorem c_images (l : List Opt) (a b : Int) (hl : l.length ≤ 1000) (hch : ∀ o ∈ l, o.charges.length ≤ 2199023255552) : zH Tryz.prog 81 [.pv (.sl 6 (l.map Opt.row)), zg .i64 a, zg .i64 b] (fun r => r = .tup [.pv (.sl 1 ((zlp l a b).map qG)), zo (pB (zcX l a b))]) := (zpI l a b hl hch).weak fun r k => ⟨_, k.le, rfl⟩
end Go.Proofs.YtihpjcmloecaaaaGreat.Cw
namespace Go.Proofs.YtihpjcmloecaaaaGreat.Cw
open Go Go.Cw Go.Proofs
set_option linter.unusedVariables false
set_option maxRecDepth 100000
set_option maxHeartbeats 8000000
def zh9 (m : Model) (p : Pair) (a b : Nat) : Int := (p.table[a * ((m.classes[p.second.toNat]?).getD []).length + b]?).getD 0
theorem zi8 {m : Model} {p : Pair} {a b : Nat} {x y : List Opt} (hx : m.classes[p.first.toNat]? = some x) (hy : m.classes[p.second.toNat]? = some y) (hp : zhv m p) (ha : a < x.length) (hb : b < y.length) : p.table[a * y.length + b]? = some (zh9 m p a b) := by
 obtain ⟨-, -, -, ⟨x', y', h1, h2, h3⟩, -⟩ := hp
 rw [hx] at h1; cases h1
 rw [hy] at h2; cases h2
 have hlt : a * y.length + b < p.table.length := by
  have : (a + 1) * y.length ≤ x.length * y.length := Nat.mul_le_mul_right _ ha
  rw [Nat.add_mul] at this
  omega
 unfold zh9
 rw [hy, List.getElem?_eq_getElem hlt]
 show _ = some ((p.table[a * y.length + b]?).getD 0)
 rw [List.getElem?_eq_getElem hlt]; rfl
theorem zmY (m : Model) (p : Pair) (a b : Nat) (l : List Opt) (v : Int) (h1 : 0 ≤ p.second) (hl : m.classes[p.second.toNat]? = some l) (ha : a ≤ 100) (hb : b ≤ 100) (hn : l.length ≤ 100) (hv : p.table[a * l.length + b]? = some v) :
  zH Tryz.prog 82 [ag m.cells, ag p.row, zg .i64 a, zg .i64 b] (fun r => r = zg .i64 v) := by
 refine zh tok mixed 24 rfl (fn := Tryz.f82) (c := Tryz.f82.body.getD .skip) (by kernel_rfl) (by kernel_rfl) (by kernel_rfl) rfl 0 rfl ?_
 have hab : a * l.length ≤ 100 * 100 := Nat.mul_le_mul ha hn
 repeat' (first | (refine zj (k := p.second.toNat) (zf hl) (by omega) ?_) | (refine zpd (by omega) (by omega) (fun _ _ => ?_)) | (refine zj (k := a * l.length + b) (zf hv) (by simp) ?_) | refine o1 ?_ | refine o2 ?_ | refine k1 ?_ | refine k2 ?_ | refine k7 ?_ | refine And.intro ?_ ?_ | refine o3 ?_ | refine o4 ?_ | (change zx _ _ _ _; refine zd rfl trivial ?_) | exact (by kernel_rfl : zn _ _ = true) | refine za ?_ | refine zc (by omega) (by omega) ?_ | fail)
 all_goals first
  | rfl
theorem zmX (m : Model) (p : Pair) (a b : Nat) (l : List Opt) (v : Int) (h1 : 0 ≤ p.second) (hl : m.classes[p.second.toNat]? = some l) (ha : a ≤ 100) (hb : b ≤ 100) (hn : l.length ≤ 100) (hv : p.table[a * l.length + b]? = some v) :
  zH Tryz.prog 39 [ag m.cells, ag p.row, zg .i64 a, zg .i64 b] (fun r => r = zg .i64 v) := by
 refine zh tok mixed 24 rfl (fn := Tryz.f39) (c := Tryz.f39.body.getD .skip) (by kernel_rfl) (by kernel_rfl) (by kernel_rfl) rfl 0 rfl ?_
 have hab : a * l.length ≤ 100 * 100 := Nat.mul_le_mul ha hn
 repeat' (first | (refine zj (k := p.second.toNat) (zf hl) (by omega) ?_) | (refine zpd (by omega) (by omega) (fun _ _ => ?_)) | (refine zj (k := a * l.length + b) (zf hv) (by simp) ?_) | refine o1 ?_ | refine o2 ?_ | refine k1 ?_ | refine k2 ?_ | refine k7 ?_ | refine And.intro ?_ ?_ | refine o3 ?_ | refine o4 ?_ | (change zx _ _ _ _; refine zd rfl trivial ?_) | exact (by kernel_rfl : zn _ _ = true) | refine za ?_ | refine zc (by omega) (by omega) ?_ | fail)
 all_goals first
  | rfl
def ldC (x y : Load) : Int := orI [zcI x.cls y.cls, zcI x.opt y.opt, zcI x.weight y.weight]
def zbr : List Load → List Load → Int
 | [], [] => 0
 | [], _ :: _ => -1
 | _ :: _, [] => 1
 | x :: a, y :: b => if ldC x y ≠ 0 then ldC x y else zbr a b
def ctC (x y : Count) : Int := orI [zcI x.rule y.rule, zcI x.most y.most, zcI x.penalty y.penalty, zbr x.loads y.loads]
theorem zbu {α : Type} {l : List α} {i : Nat} {x : α} (h : l[i]? = some x) : l.drop i = x :: l.drop (i + 1) := by
 obtain ⟨hi, rfl⟩ := List.getElem?_eq_some_iff.1 h
 exact List.drop_eq_getElem_cons hi
theorem lex_at {a b : List Load} {i : Nat} {x y : Load} (hx : a[i]? = some x) (hy : b[i]? = some y) : zbr (a.drop i) (b.drop i) = if ldC x y ≠ 0 then ldC x y else zbr (a.drop (i + 1)) (b.drop (i + 1)) := by
 rw [zbu hx, zbu hy]; rfl
theorem lex_end1 {a b : List Load} {i : Nat} {x : Load} (hx : a[i]? = some x) (hb : b.length ≤ i) : zbr (a.drop i) (b.drop i) = 1 := by
 rw [zbu hx, List.drop_eq_nil_of_le hb]; rfl
theorem lex_end2 {a b : List Load} {i : Nat} (ha : a.length ≤ i) (hb : i < b.length) : zbr (a.drop i) (b.drop i) = -1 := by
 obtain ⟨y, hy⟩ := qj hb
 rw [zbu hy, List.drop_eq_nil_of_le ha]; rfl
theorem lex_end3 {a b : List Load} {i : Nat} (ha : a.length ≤ i) (hb : b.length ≤ i) : zbr (a.drop i) (b.drop i) = 0 := by
 rw [List.drop_eq_nil_of_le ha, List.drop_eq_nil_of_le hb]; rfl
theorem ld_eq {x y : Load} (h1 : x.cls = y.cls) (h2 : x.opt = y.opt) (h3 : x.weight = y.weight) : x = y := by
 obtain ⟨a, b, c⟩ := x
 obtain ⟨d, e, f⟩ := y
 simp only at h1 h2 h3
 subst h1; subst h2; subst h3; rfl
theorem ze9 {x y : Load} : ldC x y = 0 ↔ x = y := by
 constructor
 · intro h
   have h : x.cls = y.cls ∧ x.opt = y.opt ∧ x.weight = y.weight := by
    simp only [ldC, orI, zcI] at h
    grind
   exact ld_eq h.1 h.2.1 h.2.2
 · rintro rfl
   simp only [ldC, orI, zcI]
   grind
theorem zf0 : ∀ {a b : List Load}, zbr a b = 0 ↔ a = b
 | [], [] => by simp [zbr]
 | [], _ :: _ => by simp [zbr]
 | _ :: _, [] => by simp [zbr]
 | x :: a, y :: b => by
   have ih := zf0 (a := a) (b := b)
   unfold zbr
   by_cases h : ldC x y = 0
   · rw [if_neg (by simp [h]), ih]
     have := ze9.1 h
     subst this; simp
   · rw [if_pos h]
     refine ⟨fun k => absurd k h, fun k => ?_⟩
     injection k with k1 k2
     exact absurd (ze9.2 k1) h
theorem zpf {x y : Count} : ctC x y = 0 ↔ x = y := by
 constructor
 · intro h
   have h : x.rule = y.rule ∧ x.most = y.most ∧ x.penalty = y.penalty ∧ zbr x.loads y.loads = 0 := by
    simp only [ctC] at h
    generalize zbr x.loads y.loads = z at *
    simp only [orI, zcI] at h
    grind
   obtain ⟨h1, h2, h3, h4⟩ := h
   have h5 : x.loads = y.loads := zf0.1 h4
   clear h4
   obtain ⟨a, b, c, d⟩ := x
   obtain ⟨a', b', c', d'⟩ := y
   simp only at h1 h2 h3 h5
   subst h1; subst h2; subst h3; subst h5; rfl
 · rintro rfl
   have := zf0.2 (rfl : x.loads = x.loads)
   simp only [ctC]
   rw [this]
   simp only [orI, zcI]
   grind
theorem zpE (x y : Load) : zH Tryz.prog 115 [ag x.row, ag y.row] (fun r => r = zg .i64 (ldC x y)) := by
 refine zh tok mixed 22 rfl (fn := Tryz.f115) (c := Tryz.f115.body.getD .skip) (by kernel_rfl) (by kernel_rfl) (by kernel_rfl) rfl 0 rfl ?_
 repeat' (first | refine o1 ?_ | refine o2 ?_ | refine k1 ?_ | refine k2 ?_ | refine k7 ?_ | refine And.intro ?_ ?_ | refine o3 ?_ | refine o4 ?_ | (change zx _ _ _ _; refine zd rfl trivial ?_) | exact (by kernel_rfl : zn _ _ = true) | (change zI _ _ _ _ _; refine zF rfl (by repeat' (first | trivial | refine And.intro ?_ ?_ | (show 0 + _ ≤ List.length _; simp))) zW.refl (c_cmp _ _) rfl ?_) | (change zI _ _ _ _ _; refine zF rfl (by repeat' (first | trivial | refine And.intro ?_ ?_ | (show 0 + _ ≤ List.length _; simp))) zW.refl (c_or [zcI x.cls y.cls, zcI x.opt y.opt, zcI x.weight y.weight] (Nat.le_of_ble_eq_true rfl)) rfl ?_) | fail)
 all_goals exact rfl
theorem znT (a b : List Load) (ha : a.length ≤ 100000) (hb : b.length ≤ 100000) : zH Tryz.prog 117 [.pv (.sl 3 (a.map Load.row)), .pv (.sl 3 (b.map Load.row)), .pv (.fn 115 [])] (fun r => r = zg .i64 (zbr a b)) := by
 refine zh tok mixed 39 rfl (fn := Tryz.f117) (c := Tryz.f117.body.getD .skip) (by kernel_rfl) (by kernel_rfl) (by kernel_rfl) rfl 0 rfl ?_
 repeat' (first | refine o1 ?_ | refine o2 ?_ | refine k1 ?_ | refine k2 ?_ | refine k4 ?_ | refine za ?_ | fail)
 refine qu (fun i : Nat => [(13, zg .i64 i)]) (fun _ => []) (fun i => i ≤ a.length ∧ zbr (a.drop i) (b.drop i) = zbr a b) (fun i => a.length - i) 0 ⟨Nat.zero_le _, rfl⟩ (by repeat' (first | exact trivial | exact ⟨_, rfl, ALe.refl⟩ | refine And.intro ?_ ?_)) (by repeat' (first | exact trivial)) ?_
 intro i ⟨hi, hlx⟩
 rw [← hlx]
 rcases Nat.lt_or_ge i a.length with hlt | hge
 · obtain ⟨x, hx⟩ := qj hlt
   rcases Nat.lt_or_ge i b.length with hlb | hgb
   · obtain ⟨y, hy⟩ := qj hlb
     have hc := zpE x y
     have hl := lex_at hx hy
     generalize ldC x y = z at *
     repeat' (first | refine o1 ?_ | refine o2 ?_ | refine k1 ?_ | refine k2 ?_ | refine k3 ?_ | refine k4 ?_ | refine k6 ?_ | refine k7 ?_ | refine And.intro ?_ ?_ | (intro h; first | exact Bool.noConfusion h | exact nz _ h | exact nl h | (simp at h; done) | (simp at h; first | (exfalso; omega) | skip) | skip) | (change zx _ _ _ _; refine zd rfl trivial ?_) | exact (by kernel_rfl : zn _ _ = true) | refine za ?_ | refine zc (by omega) (by omega) ?_ | refine ⟨_, _, (by first | rfl | assumption), zf (by assumption), ?_⟩ | (change zp _ _ (_ ++ pvs _) _ _; refine zbM rfl (by repeat' (first | trivial | refine And.intro ?_ ?_ | (show 0 + _ ≤ List.length _; simp))) (hc) rfl ?_) | fail)
     all_goals first
      | (rw [hl, if_pos (by assumption)]; rfl)
      | exact ⟨i + 1, ⟨by omega, by rw [hl, if_neg (by omega)]⟩, by omega, zJ [] rfl rfl trivial (by repeat' (first | exact trivial | exact rfl | refine And.intro ?_ ?_))⟩
   · have hl := lex_end1 hx hgb
     repeat' (first | refine o1 ?_ | refine o2 ?_ | refine k1 ?_ | refine k2 ?_ | refine k3 ?_ | refine k4 ?_ | refine k6 ?_ | refine k7 ?_ | refine And.intro ?_ ?_ | (intro h; first | exact Bool.noConfusion h | exact nz _ h | exact nl h | (simp at h; done) | (simp at h; first | (exfalso; omega) | skip) | skip) | (change zx _ _ _ _; refine zd rfl trivial ?_) | exact (by kernel_rfl : zn _ _ = true) | refine za ?_ | refine ⟨_, _, (by first | rfl | assumption), zf (by assumption), ?_⟩ | fail)
     all_goals first
      | (rw [hl]; rfl)
 · obtain rfl : i = a.length := by omega
   rcases Nat.lt_or_ge a.length b.length with hlb | hgb
   · have hl := lex_end2 (Nat.le_refl _) hlb
     repeat' (first | refine o1 ?_ | refine o2 ?_ | refine k1 ?_ | refine k2 ?_ | refine k3 ?_ | refine k7 ?_ | refine k8 ?_ | refine And.intro ?_ ?_ | (intro h; first | exact Bool.noConfusion h | exact nz _ h | exact nl h | (simp at h; done) | (simp at h; first | (exfalso; omega) | skip) | skip) | (change zx _ _ _ _; refine zd rfl trivial ?_) | refine za ?_ | fail)
     all_goals first
      | (exfalso; omega)
      | (rw [hl]; rfl)
   · have hl := lex_end3 (Nat.le_refl _) hgb
     repeat' (first | refine o1 ?_ | refine o2 ?_ | refine k1 ?_ | refine k2 ?_ | refine k3 ?_ | refine k6 ?_ | refine k7 ?_ | refine k8 ?_ | refine And.intro ?_ ?_ | (intro h; first | exact Bool.noConfusion h | exact nz _ h | exact nl h | (simp at h; done) | (simp at h; first | (exfalso; omega) | skip) | skip) | (change zx _ _ _ _; refine zd rfl trivial ?_) | refine za ?_ | fail)
     all_goals first
      | (exfalso; omega)
      | (rw [hl]; rfl)
theorem zkx (x y : Count) (hx : x.loads.length ≤ 100000) (hy : y.loads.length ≤ 100000) : zH Tryz.prog 88 [ag x.row, ag y.row] (fun r => r = zg .i64 (ctC x y)) := by
 refine zh tok mixed 27 rfl (fn := Tryz.f88) (c := Tryz.f88.body.getD .skip) (by kernel_rfl) (by kernel_rfl) (by kernel_rfl) rfl 0 rfl ?_
 repeat' (first | refine o1 ?_ | refine o2 ?_ | refine k1 ?_ | refine k2 ?_ | refine k7 ?_ | refine And.intro ?_ ?_ | refine o3 ?_ | refine o4 ?_ | (change zx _ _ _ _; refine zd rfl trivial ?_) | exact (by kernel_rfl : zn _ _ = true) | (change zI _ _ _ _ _; refine zF rfl (by repeat' (first | trivial | refine And.intro ?_ ?_ | (show 0 + _ ≤ List.length _; simp))) zW.refl (c_cmp _ _) rfl ?_) | (change zI _ _ _ _ _; refine zF rfl (by repeat' (first | trivial | refine And.intro ?_ ?_ | (show 0 + _ ≤ List.length _; simp))) zW.refl (znT x.loads y.loads hx hy) rfl ?_) | (change zI _ _ _ _ _; refine zF rfl (by repeat' (first | trivial | refine And.intro ?_ ?_ | (show 0 + _ ≤ List.length _; simp))) zW.refl (c_or [zcI x.rule y.rule, zcI x.most y.most, zcI x.penalty y.penalty, zbr x.loads y.loads] (Nat.le_of_ble_eq_true rfl)) rfl ?_) | fail)
 all_goals exact rfl
theorem c_swap3 (x y : Count) (hx : x.loads.length ≤ 100000) (hy : y.loads.length ≤ 100000) : zH Tryz.prog 87 [ag x.row, ag y.row] (fun r => r = zo (pB (x = y))) := by
 refine zh tok mixed 9 rfl (fn := Tryz.f87) (c := Tryz.f87.body.getD .skip) (by kernel_rfl) (by kernel_rfl) (by kernel_rfl) rfl 0 rfl ?_
 have hc := zkx x y hx hy
 have hz := zpf (x := x) (y := y)
 generalize ctC x y = z at *
 repeat' (first | refine o1 ?_ | refine o2 ?_ | refine k1 ?_ | refine k2 ?_ | refine k7 ?_ | (change zx _ _ _ _; refine zd rfl trivial ?_) | (change zp _ _ _ _ _; refine zC rfl (by repeat' (first | trivial | refine And.intro ?_ ?_ | (show 0 + _ ≤ List.length _; simp))) zW.refl (hc) rfl ?_) | fail)
 all_goals first
  | exact congrArg zo (zaS (hz.1 (by assumption))).symm
  | exact congrArg zo (zaj fun k => absurd (hz.2 k) (by assumption)).symm
  | exact congrArg zo (zea (by simp_all))
theorem c_swap1 (x : Load) : zH Tryz.prog 84 [ag x.row] (fun r => r = zg .i64 x.opt) := by
 refine zh tok mixed 5 rfl (fn := Tryz.f84) (c := Tryz.f84.body.getD .skip) (by kernel_rfl) (by kernel_rfl) (by kernel_rfl) rfl 0 rfl ?_
 repeat' (first | refine o1 ?_ | refine o2 ?_ | refine k1 ?_ | refine k2 ?_ | refine k7 ?_ | (change zx _ _ _ _; refine zd rfl trivial ?_) | fail)
 all_goals exact rfl
def qg (l : List Nat) : List PV := [.sl 1 (l.map qG)]
theorem c_swap2 (V : List (List Nat)) (x : Load) (v : List Nat) (j : Nat) (h1 : 0 ≤ x.cls) (h2 : 0 ≤ x.opt) (hv : V[x.cls.toNat]? = some v) (hj : v[x.opt.toNat]? = some j) : zH Tryz.prog 85 [ag x.row, .pv (.ia [.sl 1 (V.map qg)])] (fun r => r = zg .i64 j) := by
 refine zh tok mixed 13 rfl (fn := Tryz.f85) (c := Tryz.f85.body.getD .skip) (by kernel_rfl) (by kernel_rfl) (by kernel_rfl) rfl 0 rfl ?_
 repeat' (first | (refine zj (k := x.cls.toNat) (zf hv) (by omega) ?_) | (refine zj (k := x.opt.toNat) (zf hj) (by omega) ?_) | refine o1 ?_ | refine o2 ?_ | refine k1 ?_ | refine k2 ?_ | refine k7 ?_ | refine And.intro ?_ ?_ | refine o3 ?_ | refine o4 ?_ | (change zx _ _ _ _; refine zd rfl trivial ?_) | exact (by kernel_rfl : zn _ _ = true) | fail)
 all_goals exact rfl
theorem c_equalC (a b : List Count) (ha : a.length ≤ 100000) (hb : b.length ≤ 100000) (hal : ∀ c ∈ a, c.loads.length ≤ 100000) (hbl : ∀ c ∈ b, c.loads.length ≤ 100000) : zH Tryz.prog 86 [.pv (.sl 4 (a.map Count.row)), .pv (.sl 4 (b.map Count.row)), .pv (.fn 87 [])] (fun r => r = zo (pB (a = b))) := by
 refine zh tok mixed 32 rfl (fn := Tryz.f86) (c := Tryz.f86.body.getD .skip) (by kernel_rfl) (by kernel_rfl) (by kernel_rfl) rfl 0 rfl ?_
 repeat' (first | refine o1 ?_ | refine o2 ?_ | refine k1 ?_ | refine k2 ?_ | refine k3 ?_ | refine k4 ?_ | refine k6 ?_ | refine k7 ?_ | refine And.intro ?_ ?_ | (intro h; first | exact Bool.noConfusion h | exact nz _ h | exact nl h | (simp at h; done) | (simp at h; first | (exfalso; omega) | skip) | skip) | (change zx _ _ _ _; refine zd rfl trivial ?_) | refine za ?_ | fail)
 · exact congrArg zo (zaj fun e => by subst e; simp_all).symm
 · have hl : a.length = b.length := by omega
   refine qu (fun i : Nat => [(17, zg .i64 i)]) (fun _ => []) (fun i => i ≤ a.length ∧ ∀ j, j < i → ∀ x y, a[j]? = some x → b[j]? = some y → x = y) (fun i => a.length - i) 0 ⟨Nat.zero_le _, fun j hj => by omega⟩ (by repeat' (first | exact trivial | exact ⟨_, rfl, ALe.refl⟩ | refine And.intro ?_ ?_)) (by repeat' (first | exact trivial)) ?_
   intro i ⟨hi, hall⟩
   rcases Nat.lt_or_ge i a.length with hlt | hge
   · obtain ⟨x, hx⟩ := qj hlt
     obtain ⟨y, hy⟩ := qj (show i < b.length by omega)
     have hc := c_swap3 x y (hal x (List.mem_of_getElem? hx)) (hbl y (List.mem_of_getElem? hy))
     by_cases hxy : x = y
     · rw [zaS hxy] at hc
       repeat' (first | refine o1 ?_ | refine o2 ?_ | refine k1 ?_ | refine k2 ?_ | refine k3 ?_ | refine k4 ?_ | refine k6 ?_ | refine And.intro ?_ ?_ | (intro h; first | exact Bool.noConfusion h | exact nz _ h | exact nl h | (simp at h; done) | (simp at h; first | (exfalso; omega) | skip) | skip) | exact (by kernel_rfl : zn _ _ = true) | refine zc (by omega) (by omega) ?_ | refine ⟨_, _, (by first | rfl | assumption), zf (by assumption), ?_⟩ | (change zp _ _ (_ ++ pvs _) _ _; refine zbM rfl (by repeat' (first | trivial | refine And.intro ?_ ?_ | (show 0 + _ ≤ List.length _; simp))) (hc) rfl ?_) | fail)
       all_goals first
        | exact ⟨i + 1, ⟨by omega, zz hall fun x' y' q1 q2 => by rw [hx] at q1; cases q1; rw [hy] at q2; cases q2; exact hxy⟩, by omega, zJ [] rfl rfl trivial (by repeat' (first | exact trivial | exact rfl | refine And.intro ?_ ?_))⟩
     · rw [zaj hxy] at hc
       repeat' (first | refine o1 ?_ | refine o2 ?_ | refine k1 ?_ | refine k2 ?_ | refine k3 ?_ | refine k4 ?_ | refine k6 ?_ | refine k7 ?_ | refine And.intro ?_ ?_ | (intro h; first | exact Bool.noConfusion h | exact nz _ h | exact nl h | (simp at h; done) | (simp at h; first | (exfalso; omega) | skip) | skip) | (change zx _ _ _ _; refine zd rfl trivial ?_) | exact (by kernel_rfl : zn _ _ = true) | refine ⟨_, _, (by first | rfl | assumption), zf (by assumption), ?_⟩ | (change zp _ _ (_ ++ pvs _) _ _; refine zbM rfl (by repeat' (first | trivial | refine And.intro ?_ ?_ | (show 0 + _ ≤ List.length _; simp))) (hc) rfl ?_) | fail)
       all_goals first
        | exact congrArg zo (zaj fun e => hxy (by subst e; rw [hx] at hy; injection hy)).symm
   · repeat' (first | refine o1 ?_ | refine o2 ?_ | refine k1 ?_ | refine k2 ?_ | refine k3 ?_ | refine k7 ?_ | refine k8 ?_ | refine And.intro ?_ ?_ | (intro h; first | exact Bool.noConfusion h | exact nz _ h | exact nl h | (simp at h; done) | (simp at h; first | (exfalso; omega) | skip) | skip) | (change zx _ _ _ _; refine zd rfl trivial ?_) | fail)
     exact congrArg zo (zaS (ziT hl fun j hj => hall j (by omega))).symm
end Go.Proofs.YtihpjcmloecaaaaGreat.Cw
namespace Go.Proofs.YtihpjcmloecaaaaGreat.Cw
open Go Go.Cw Go.Proofs
set_option maxRecDepth 100000
def zln : Go.Shelf.Ren := ⟨fun | 6 => 114 | 15 => 119 | 14 => 122 | 28 => 133 | 29 => 134 | 20 => 135 | 21 => 136 | 22 => 137 | 23 => 138 | 24 => 139 | 25 => 140 | 26 => 141 | 27 => 142 | 46 => 156 | 47 => 152 | 48 => 153 | 49 => 157 | 50 => 158 | 57 => 163 | n => n, fun | 22 => 76 | 24 => 102 | 25 => 149 | 3 => 3 | 39 => 154 | 0 => 0 | 53 => 166 | 55 => 168 | 4 => 4 | 46 => 160 | 45 => 159 | 50 => 87 | 5 => 5 | 9 => 9 | 66 => 179 | 70 => 183 | 76 => 189 | 77 => 190 | n => n, fun | n => n⟩
theorem zoM : Go.Proofs.SlLaysF0.n6 Tryz.prog zln where
 mixed := by kernel_rfl
 f6 := ⟨"slices.SortFunc[[]timetable/api.Load,timetable/api.Load]", by decide, Tryz.func114.trans (congrArg some (by kernel_rfl))⟩
 f14 := ⟨"slices.pdqsortCmpFunc[timetable/api.Load]", by decide, Tryz.func122.trans (congrArg some (by kernel_rfl))⟩
 f15 := Tryz.func119.trans (congrArg some (by kernel_rfl))
 f20 := ⟨"slices.insertionSortCmpFunc[timetable/api.Load]", by decide, Tryz.func135.trans (congrArg some (by kernel_rfl))⟩
 f21 := ⟨"slices.heapSortCmpFunc[timetable/api.Load]", by decide, Tryz.func136.trans (congrArg some (by kernel_rfl))⟩
 f22 := ⟨"slices.breakPatternsCmpFunc[timetable/api.Load]", by decide, Tryz.func137.trans (congrArg some (by kernel_rfl))⟩
 f23 := ⟨"slices.choosePivotCmpFunc[timetable/api.Load]", by decide, Tryz.func138.trans (congrArg some (by kernel_rfl))⟩
 f24 := ⟨"slices.reverseRangeCmpFunc[timetable/api.Load]", by decide, Tryz.func139.trans (congrArg some (by kernel_rfl))⟩
 f25 := ⟨"slices.partialInsertionSortCmpFunc[timetable/api.Load]", by decide, Tryz.func140.trans (congrArg some (by kernel_rfl))⟩
 f26 := ⟨"slices.partitionEqualCmpFunc[timetable/api.Load]", by decide, Tryz.func141.trans (congrArg some (by kernel_rfl))⟩
 f27 := ⟨"slices.partitionCmpFunc[timetable/api.Load]", by decide, Tryz.func142.trans (congrArg some (by kernel_rfl))⟩
 f28 := Tryz.func133.trans (congrArg some (by kernel_rfl))
 f29 := Tryz.func134.trans (congrArg some (by kernel_rfl))
 f46 := ⟨"slices.siftDownCmpFunc[timetable/api.Load]", by decide, Tryz.func156.trans (congrArg some (by kernel_rfl))⟩
 f47 := Tryz.func152.trans (congrArg some (by kernel_rfl))
 f48 := Tryz.func153.trans (congrArg some (by kernel_rfl))
 f49 := ⟨"slices.medianAdjacentCmpFunc[timetable/api.Load]", by decide, Tryz.func157.trans (congrArg some (by kernel_rfl))⟩
 f50 := ⟨"slices.medianCmpFunc[timetable/api.Load]", by decide, Tryz.func158.trans (congrArg some (by kernel_rfl))⟩
 f57 := ⟨"slices.order2CmpFunc[timetable/api.Load]", by decide, Tryz.func163.trans (congrArg some (by kernel_rfl))⟩
 t0 := Tryz.underlying0
 a0 := Tryz.isAgg0
 z0 := Tryz.sizeOf0
 v0 := Tryz.zeroValue0
 t3 := Tryz.underlying3
 a3 := Tryz.isAgg3
 z3 := Tryz.sizeOf3
 v3 := Tryz.zeroValue3
 t4 := Tryz.underlying4
 a4 := Tryz.isAgg4
 z4 := Tryz.sizeOf4
 v4 := Tryz.zeroValue4
 t5 := Tryz.underlying5
 a5 := Tryz.isAgg5
 z5 := Tryz.sizeOf5
 v5 := Tryz.zeroValue5
 t9 := Tryz.underlying9
 a9 := Tryz.isAgg9
 z9 := Tryz.sizeOf9
 v9 := Tryz.zeroValue9
 t22 := Tryz.underlying76
 a22 := Tryz.isAgg76
 z22 := Tryz.sizeOf76
 v22 := Tryz.zeroValue76
 t25 := Tryz.underlying149
 a25 := Tryz.isAgg149
 z25 := Tryz.sizeOf149
 v25 := Tryz.zeroValue149
 t39 := Tryz.underlying154
 a39 := Tryz.isAgg154
 z39 := Tryz.sizeOf154
 v39 := Tryz.zeroValue154
 t45 := Tryz.underlying159
 a45 := Tryz.isAgg159
 z45 := Tryz.sizeOf159
 v45 := Tryz.zeroValue159
 t46 := Tryz.underlying160
 a46 := Tryz.isAgg160
 z46 := Tryz.sizeOf160
 v46 := Tryz.zeroValue160
 t50 := Tryz.underlying87
 a50 := Tryz.isAgg87
 z50 := Tryz.sizeOf87
 v50 := Tryz.zeroValue87
 t53 := Tryz.underlying166
 a53 := Tryz.isAgg166
 z53 := Tryz.sizeOf166
 v53 := Tryz.zeroValue166
 t55 := Tryz.underlying168
 a55 := Tryz.isAgg168
 z55 := Tryz.sizeOf168
 v55 := Tryz.zeroValue168
 t66 := Tryz.underlying179
 a66 := Tryz.isAgg179
 z66 := Tryz.sizeOf179
 v66 := Tryz.zeroValue179
 t70 := Tryz.underlying183
 a70 := Tryz.isAgg183
 z70 := Tryz.sizeOf183
 v70 := Tryz.zeroValue183
 t76 := Tryz.underlying189
 a76 := Tryz.isAgg189
 z76 := Tryz.sizeOf189
 v76 := Tryz.zeroValue189
 t77 := Tryz.underlying190
 a77 := Tryz.isAgg190
 z77 := Tryz.sizeOf190
 v77 := Tryz.zeroValue190
def zj4 : Go.Shelf.Ren := ⟨fun | 6 => 116 | 15 => 119 | 14 => 123 | 28 => 133 | 29 => 134 | 20 => 143 | 21 => 144 | 22 => 145 | 23 => 146 | 24 => 147 | 25 => 148 | 26 => 149 | 27 => 150 | 46 => 159 | 47 => 152 | 48 => 153 | 49 => 160 | 50 => 161 | 57 => 164 | n => n, fun | 22 => 27 | 24 => 78 | 25 => 125 | 3 => 3 | 39 => 154 | 0 => 0 | 53 => 166 | 55 => 168 | 4 => 4 | 46 => 160 | 45 => 159 | 50 => 87 | 5 => 5 | 9 => 9 | 66 => 179 | 70 => 183 | 76 => 189 | 77 => 190 | n => n, fun | n => n⟩
theorem zmr : Go.Proofs.SlLaysF0.n6 Tryz.prog zj4 where
 mixed := by kernel_rfl
 f6 := ⟨"slices.SortFunc[[]timetable/api.Count,timetable/api.Count]", by decide, Tryz.func116.trans (congrArg some (by kernel_rfl))⟩
 f14 := ⟨"slices.pdqsortCmpFunc[timetable/api.Count]", by decide, Tryz.func123.trans (congrArg some (by kernel_rfl))⟩
 f15 := Tryz.func119.trans (congrArg some (by kernel_rfl))
 f20 := ⟨"slices.insertionSortCmpFunc[timetable/api.Count]", by decide, Tryz.func143.trans (congrArg some (by kernel_rfl))⟩
 f21 := ⟨"slices.heapSortCmpFunc[timetable/api.Count]", by decide, Tryz.func144.trans (congrArg some (by kernel_rfl))⟩
 f22 := ⟨"slices.breakPatternsCmpFunc[timetable/api.Count]", by decide, Tryz.func145.trans (congrArg some (by kernel_rfl))⟩
 f23 := ⟨"slices.choosePivotCmpFunc[timetable/api.Count]", by decide, Tryz.func146.trans (congrArg some (by kernel_rfl))⟩
 f24 := ⟨"slices.reverseRangeCmpFunc[timetable/api.Count]", by decide, Tryz.func147.trans (congrArg some (by kernel_rfl))⟩
 f25 := ⟨"slices.partialInsertionSortCmpFunc[timetable/api.Count]", by decide, Tryz.func148.trans (congrArg some (by kernel_rfl))⟩
 f26 := ⟨"slices.partitionEqualCmpFunc[timetable/api.Count]", by decide, Tryz.func149.trans (congrArg some (by kernel_rfl))⟩
 f27 := ⟨"slices.partitionCmpFunc[timetable/api.Count]", by decide, Tryz.func150.trans (congrArg some (by kernel_rfl))⟩
 f28 := Tryz.func133.trans (congrArg some (by kernel_rfl))
 f29 := Tryz.func134.trans (congrArg some (by kernel_rfl))
 f46 := ⟨"slices.siftDownCmpFunc[timetable/api.Count]", by decide, Tryz.func159.trans (congrArg some (by kernel_rfl))⟩
 f47 := Tryz.func152.trans (congrArg some (by kernel_rfl))
 f48 := Tryz.func153.trans (congrArg some (by kernel_rfl))
 f49 := ⟨"slices.medianAdjacentCmpFunc[timetable/api.Count]", by decide, Tryz.func160.trans (congrArg some (by kernel_rfl))⟩
 f50 := ⟨"slices.medianCmpFunc[timetable/api.Count]", by decide, Tryz.func161.trans (congrArg some (by kernel_rfl))⟩
 f57 := ⟨"slices.order2CmpFunc[timetable/api.Count]", by decide, Tryz.func164.trans (congrArg some (by kernel_rfl))⟩
 t0 := Tryz.underlying0
 a0 := Tryz.isAgg0
 z0 := Tryz.sizeOf0
 v0 := Tryz.zeroValue0
 t3 := Tryz.underlying3
 a3 := Tryz.isAgg3
 z3 := Tryz.sizeOf3
 v3 := Tryz.zeroValue3
 t4 := Tryz.underlying4
 a4 := Tryz.isAgg4
 z4 := Tryz.sizeOf4
 v4 := Tryz.zeroValue4
 t5 := Tryz.underlying5
 a5 := Tryz.isAgg5
 z5 := Tryz.sizeOf5
 v5 := Tryz.zeroValue5
 t9 := Tryz.underlying9
 a9 := Tryz.isAgg9
 z9 := Tryz.sizeOf9
 v9 := Tryz.zeroValue9
 t22 := Tryz.underlying27
 a22 := Tryz.isAgg27
 z22 := Tryz.sizeOf27
 v22 := Tryz.zeroValue27
 t25 := Tryz.underlying125
 a25 := Tryz.isAgg125
 z25 := Tryz.sizeOf125
 v25 := Tryz.zeroValue125
 t39 := Tryz.underlying154
 a39 := Tryz.isAgg154
 z39 := Tryz.sizeOf154
 v39 := Tryz.zeroValue154
 t45 := Tryz.underlying159
 a45 := Tryz.isAgg159
 z45 := Tryz.sizeOf159
 v45 := Tryz.zeroValue159
 t46 := Tryz.underlying160
 a46 := Tryz.isAgg160
 z46 := Tryz.sizeOf160
 v46 := Tryz.zeroValue160
 t50 := Tryz.underlying87
 a50 := Tryz.isAgg87
 z50 := Tryz.sizeOf87
 v50 := Tryz.zeroValue87
 t53 := Tryz.underlying166
 a53 := Tryz.isAgg166
 z53 := Tryz.sizeOf166
 v53 := Tryz.zeroValue166
 t55 := Tryz.underlying168
 a55 := Tryz.isAgg168
 z55 := Tryz.sizeOf168
 v55 := Tryz.zeroValue168
 t66 := Tryz.underlying179
 a66 := Tryz.isAgg179
 z66 := Tryz.sizeOf179
 v66 := Tryz.zeroValue179
 t70 := Tryz.underlying183
 a70 := Tryz.isAgg183
 z70 := Tryz.sizeOf183
 v70 := Tryz.zeroValue183
 t76 := Tryz.underlying189
 a76 := Tryz.isAgg189
 z76 := Tryz.sizeOf189
 v76 := Tryz.zeroValue189
 t77 := Tryz.underlying190
 a77 := Tryz.isAgg190
 z77 := Tryz.sizeOf190
 v77 := Tryz.zeroValue190
def zj3 : Go.Shelf.Ren := ⟨fun | 189 => 90 | 125 => 119 | 257 => 118 | 128 => 133 | 129 => 134 | 294 => 124 | 295 => 125 | 296 => 126 | 297 => 127 | 298 => 128 | 299 => 129 | 216 => 130 | 300 => 131 | 301 => 132 | 328 => 151 | 329 => 152 | 330 => 153 | 331 => 154 | 332 => 155 | 215 => 121 | 343 => 162 | n => n, fun | 28 => 22 | 3 => 3 | 46 => 154 | 0 => 0 | 51 => 166 | 53 => 168 | 4 => 4 | 183 => 160 | 182 => 159 | 131 => 87 | 5 => 5 | 9 => 9 | 218 => 179 | 222 => 183 | 228 => 189 | 229 => 190 | n => n, fun | n => n⟩
theorem zmq : Go.Proofs.Lays.n189 Tryz.prog zj3 where
 mixed := by kernel_rfl
 f125 := Tryz.func119.trans (congrArg some (by kernel_rfl))
 f128 := Tryz.func133.trans (congrArg some (by kernel_rfl))
 f129 := Tryz.func134.trans (congrArg some (by kernel_rfl))
 f189 := Tryz.func90.trans (congrArg some (by kernel_rfl))
 f215 := Tryz.func121.trans (congrArg some (by kernel_rfl))
 f216 := Tryz.func130.trans (congrArg some (by kernel_rfl))
 f257 := Tryz.func118.trans (congrArg some (by kernel_rfl))
 f294 := Tryz.func124.trans (congrArg some (by kernel_rfl))
 f295 := Tryz.func125.trans (congrArg some (by kernel_rfl))
 f296 := Tryz.func126.trans (congrArg some (by kernel_rfl))
 f297 := Tryz.func127.trans (congrArg some (by kernel_rfl))
 f298 := Tryz.func128.trans (congrArg some (by kernel_rfl))
 f299 := Tryz.func129.trans (congrArg some (by kernel_rfl))
 f300 := Tryz.func131.trans (congrArg some (by kernel_rfl))
 f301 := Tryz.func132.trans (congrArg some (by kernel_rfl))
 f328 := Tryz.func151.trans (congrArg some (by kernel_rfl))
 f329 := Tryz.func152.trans (congrArg some (by kernel_rfl))
 f330 := Tryz.func153.trans (congrArg some (by kernel_rfl))
 f331 := Tryz.func154.trans (congrArg some (by kernel_rfl))
 f332 := Tryz.func155.trans (congrArg some (by kernel_rfl))
 f343 := Tryz.func162.trans (congrArg some (by kernel_rfl))
 t0 := Tryz.underlying0
 a0 := Tryz.isAgg0
 z0 := Tryz.sizeOf0
 v0 := Tryz.zeroValue0
 t3 := Tryz.underlying3
 a3 := Tryz.isAgg3
 z3 := Tryz.sizeOf3
 v3 := Tryz.zeroValue3
 t4 := Tryz.underlying4
 a4 := Tryz.isAgg4
 z4 := Tryz.sizeOf4
 v4 := Tryz.zeroValue4
 t5 := Tryz.underlying5
 a5 := Tryz.isAgg5
 z5 := Tryz.sizeOf5
 v5 := Tryz.zeroValue5
 t9 := Tryz.underlying9
 a9 := Tryz.isAgg9
 z9 := Tryz.sizeOf9
 v9 := Tryz.zeroValue9
 t28 := Tryz.underlying22
 a28 := Tryz.isAgg22
 z28 := Tryz.sizeOf22
 v28 := Tryz.zeroValue22
 t46 := Tryz.underlying154
 a46 := Tryz.isAgg154
 z46 := Tryz.sizeOf154
 v46 := Tryz.zeroValue154
 t51 := Tryz.underlying166
 a51 := Tryz.isAgg166
 z51 := Tryz.sizeOf166
 v51 := Tryz.zeroValue166
 t53 := Tryz.underlying168
 a53 := Tryz.isAgg168
 z53 := Tryz.sizeOf168
 v53 := Tryz.zeroValue168
 t131 := Tryz.underlying87
 a131 := Tryz.isAgg87
 z131 := Tryz.sizeOf87
 v131 := Tryz.zeroValue87
 t182 := Tryz.underlying159
 a182 := Tryz.isAgg159
 z182 := Tryz.sizeOf159
 v182 := Tryz.zeroValue159
 t183 := Tryz.underlying160
 a183 := Tryz.isAgg160
 z183 := Tryz.sizeOf160
 v183 := Tryz.zeroValue160
 t218 := Tryz.underlying179
 a218 := Tryz.isAgg179
 z218 := Tryz.sizeOf179
 v218 := Tryz.zeroValue179
 t222 := Tryz.underlying183
 a222 := Tryz.isAgg183
 z222 := Tryz.sizeOf183
 v222 := Tryz.zeroValue183
 t228 := Tryz.underlying189
 a228 := Tryz.isAgg189
 z228 := Tryz.sizeOf189
 v228 := Tryz.zeroValue189
 t229 := Tryz.underlying190
 a229 := Tryz.isAgg190
 z229 := Tryz.sizeOf190
 v229 := Tryz.zeroValue190
def zj5 : Go.Shelf.Ren := ⟨fun | 20 => 91 | n => n, fun | 22 => 22 | 3 => 3 | 4 => 4 | 0 => 0 | n => n, fun | n => n⟩
theorem zms : Go.Proofs.Lays2.n20 Tryz.prog zj5 where
 mixed := by kernel_rfl
 f20 := Tryz.func91.trans (congrArg some (by kernel_rfl))
 t0 := Tryz.underlying0
 a0 := Tryz.isAgg0
 z0 := Tryz.sizeOf0
 v0 := Tryz.zeroValue0
 t3 := Tryz.underlying3
 a3 := Tryz.isAgg3
 z3 := Tryz.sizeOf3
 v3 := Tryz.zeroValue3
 t4 := Tryz.underlying4
 a4 := Tryz.isAgg4
 z4 := Tryz.sizeOf4
 v4 := Tryz.zeroValue4
 t22 := Tryz.underlying22
 a22 := Tryz.isAgg22
 z22 := Tryz.sizeOf22
 v22 := Tryz.zeroValue22
 i3 := by kernel_rfl
theorem ent {f : FuncId} {fn : Func} (h : Tryz.prog.funcs[f]? = some fn) (h1 : (fn.name == "runtime.NumGoroutine") = false) (h2 : fn.body.isNone = false) : xA Tryz.prog f := ⟨fn, h, h1, h2⟩
theorem c_sortI (ss : List Int) (hne : ss ≠ []) (hl : ss.length ≤ 1000000000000) :
  qf Tryz.prog 90 [.ms 0 1 0 ss.length] [some ⟨3, 1, false, .p (ss.map zr)⟩] fun r H' => r = .tup [] ∧ H' = [some ⟨3, 1, false, .p ((zbS ss).map zr)⟩] :=
 zlR zmq (ent Tryz.func90 (by kernel_rfl) (by kernel_rfl)) 3 ss hne (by omega)
theorem c_sortI0 : zH Tryz.prog 90 [.pv (.val (.slice none 0 0))] (fun r => r = .tup []) := zkG zmq (ent Tryz.func90 (by kernel_rfl) (by kernel_rfl))
theorem znU (ss : List Int) (hne : ss ≠ []) (hl : ss.length ≤ 1000000000000) :
  qf Tryz.prog 91 [.ms 0 1 0 ss.length] [some ⟨3, 1, false, .p (ss.map zr)⟩] fun r H' => r = .ms 0 1 0 (qW ss).length ∧ ∃ zs : List Int, H' = [some ⟨3, 1, false, .p ((qW ss).map zr ++ zs.map zr)⟩] :=
 zhz zms (ent Tryz.func91 (by kernel_rfl) (by kernel_rfl)) 3 ss hne (by omega)
theorem zlK : zH Tryz.prog 91 [.pv (.val (.slice none 0 0))] (fun r => r = .pv (.val (.slice none 0 0))) := zhi zms (ent Tryz.func91 (by kernel_rfl) (by kernel_rfl))
theorem c_sortL (xs : List (List PV)) (C : List PV → List PV → Int) (hC : ∀ x ∈ xs, ∀ y ∈ xs, zH Tryz.prog 115 ([.agg (pvs x), .agg (pvs y)] ++ pvs []) (fun r => r = zg .i64 (C x y))) (hO : WeakOrd C xs) (hne : xs ≠ []) (hlen : xs.length ≤ 1000000000000) :
  qf Tryz.prog 114 [.ms 0 3 0 xs.length, .pv (.fn 115 [])] [some ⟨102, 3, false, .p xs⟩] fun r H' => r = .tup [] ∧ ∃ ys, ys.Perm xs ∧ zjn C ys ∧ H' = [some ⟨102, 3, false, .p ys⟩] :=
 zhh zoM (ent Tryz.func114 (by kernel_rfl) (by kernel_rfl)) Tryz.isAgg102 Tryz.sizeOf102 102 xs 115 [] C (Go.Proofs.enters_of Tryz.func115 (by kernel_rfl) rfl) hC hO (by decide) hne (by omega)
theorem c_sortC (xs : List (List PV)) (C : List PV → List PV → Int) (hC : ∀ x ∈ xs, ∀ y ∈ xs, zH Tryz.prog 88 ([.agg (pvs x), .agg (pvs y)] ++ pvs []) (fun r => r = zg .i64 (C x y))) (hO : WeakOrd C xs) (hne : xs ≠ []) (hlen : xs.length ≤ 1000000000000) :
  qf Tryz.prog 116 [.ms 0 4 0 xs.length, .pv (.fn 88 [])] [some ⟨78, 4, false, .p xs⟩] fun r H' => r = .tup [] ∧ ∃ ys, ys.Perm xs ∧ zjn C ys ∧ H' = [some ⟨78, 4, false, .p ys⟩] :=
 zhh zmr (ent Tryz.func116 (by kernel_rfl) (by kernel_rfl)) Tryz.isAgg78 Tryz.sizeOf78 78 xs 88 [] C (Go.Proofs.enters_of Tryz.func88 (by kernel_rfl) rfl) hC hO (by decide) hne (by omega)
end Go.Proofs.YtihpjcmloecaaaaGreat.Cw
namespace Go.Proofs.YtihpjcmloecaaaaGreat.Cw
open Go Go.Cw Go.Proofs
set_option linter.unusedVariables false
set_option maxRecDepth 100000
set_option maxHeartbeats 8000000
structure TotC {α : Type} (C : α → α → Int) : Prop where
 zero : ∀ x y, C x y = 0 ↔ x = y
 neg : ∀ x y, C x y < 0 ↔ 0 < C y x
 trans : ∀ x y z, C x y < 0 → C y z < 0 → C x z < 0
theorem TotC.refl {α : Type} {C : α → α → Int} (h : TotC C) (x : α) : C x x = 0 := (h.zero x x).2 rfl
theorem TotC.le_trans {α : Type} {C : α → α → Int} (h : TotC C) {x y z : α} (h1 : C x y ≤ 0) (h2 : C y z ≤ 0) : C x z ≤ 0 := by
 rcases Int.lt_or_eq_of_le h1 with h1 | h1
 · rcases Int.lt_or_eq_of_le h2 with h2 | h2
   · exact Int.le_of_lt (h.trans x y z h1 h2)
   · have := (h.zero _ _).1 h2; subst this; exact Int.le_of_lt h1
 · have := (h.zero _ _).1 h1; subst this; exact h2
theorem TotC.anti {α : Type} {C : α → α → Int} (h : TotC C) {x y : α} (h1 : C x y ≤ 0) (h2 : C y x ≤ 0) : x = y := by
 rcases Int.lt_or_eq_of_le h1 with h1 | h1
 · have := (h.neg _ _).1 h1; omega
 · exact (h.zero _ _).1 h1
theorem TotC.total {α : Type} {C : α → α → Int} (h : TotC C) (x y : α) : C x y ≤ 0 ∨ C y x ≤ 0 := by
 rcases Int.lt_or_le 0 (C x y) with h1 | h1
 · exact .inr (Int.le_of_lt ((h.neg _ _).2 h1))
 · exact .inl h1
def srt {α : Type} (C : α → α → Int) (l : List α) : List α := l.mergeSort fun x y => decide (C x y ≤ 0)
theorem zd3 {α : Type} {C : α → α → Int} (l : List α) : (srt C l).length = l.length := List.length_mergeSort _
theorem zba {α : Type} {C : α → α → Int} (l : List α) : (srt C l).Perm l := List.mergeSort_perm ..
theorem ze5 {α : Type} {C : α → α → Int} (h : TotC C) (l : List α) : (srt C l).Pairwise fun x y => C x y ≤ 0 := by
 refine (List.pairwise_mergeSort (le := fun x y => decide (C x y ≤ 0)) ?_ ?_ l).imp fun {a b} h => of_decide_eq_true h
 · intro a b c h1 h2
   exact decide_eq_true (h.le_trans (of_decide_eq_true h1) (of_decide_eq_true h2))
 · intro a b
   rcases h.total a b with k | k
   · simp [k]
   · simp [k]
theorem zhI {α : Type} {C : α → α → Int} (h : TotC C) {a b : List α} (hp : a.Perm b) (ha : a.Pairwise fun x y => C x y ≤ 0) (hb : b.Pairwise fun x y => C x y ≤ 0) : a = b :=
 List.Perm.eq_of_pairwise (le := fun x y => C x y ≤ 0) (fun x y _ _ h1 h2 => h.anti h1 h2) ha hb hp
theorem zlZ {α : Type} {C : α → α → Int} (h : TotC C) {a b : List α} : srt C a = srt C b ↔ a.Perm b :=
 ⟨fun e => (zba a).symm.trans (e ▸ zba b), fun hp => zhI h ((zba a).trans (hp.trans (zba b).symm)) (ze5 h a) (ze5 h b)⟩
theorem zlY {α : Type} {C : α → α → Int} (h : TotC C) {row : α → List PV} {un : List PV → α} (hun : ∀ a, un (row a) = a) {l : List α} {ys : List (List PV)} (hp : ys.Perm (l.map row)) (ha : zjn (fun x y => C (un x) (un y)) ys) : ys = (srt C l).map row := by
 have hmu : (l.map row).map un = l := by
  rw [List.map_map]
  have : (un ∘ row) = id := funext hun
  rw [this, List.map_id]
 have e : ys = (ys.map un).map row := by
  rw [List.map_map]
  have : ys.map (row ∘ un) = ys.map id := List.map_congr_left fun x hx => by
   obtain ⟨s, -, rfl⟩ := List.mem_map.1 (hp.subset hx)
   show row (un (row s)) = row s
   rw [hun]
  rw [this, List.map_id]
 have hp2 : (ys.map un).Perm l := by
  have := hp.map un
  rwa [hmu] at this
 have hs : (ys.map un).Pairwise fun x y => C x y ≤ 0 := by
  rw [List.pairwise_iff_getElem]
  intro i j hi hj hij
  rw [List.length_map] at hi hj
  have h1 : ¬ C (un ys[j]) (un ys[i]) < 0 := ha i j _ _ hij (List.getElem?_eq_getElem hi) (List.getElem?_eq_getElem hj)
  rw [List.getElem_map, List.getElem_map]
  have h2 := h.neg (un ys[j]) (un ys[i])
  exact Int.not_lt.1 fun k => h1 (h2.2 k)
 rw [zhI h (hp2.trans (zba (C := C) l).symm) hs (ze5 h l)] at e
 exact e
theorem zn1 {α : Type} {C : α → α → Int} (h : TotC C) {row : α → List PV} {un : List PV → α} (hun : ∀ a, un (row a) = a) (l : List α) : WeakOrd (fun x y => C (un x) (un y)) (l.map row) := by
 refine ⟨fun x hx => ?_, fun x hx y hy z hz h1 h2 => ?_, fun x hx y hy z hz h1 h2 => ?_⟩
 · show ¬ C (un x) (un x) < 0
   rw [h.refl]; omega
 · exact h.trans _ _ _ h1 h2
 · have e1 := h.neg (un y) (un x)
   have e2 := h.neg (un z) (un y)
   have e3 := h.neg (un z) (un x)
   have e1' := h.neg (un x) (un y)
   have e2' := h.neg (un y) (un z)
   have e3' := h.neg (un x) (un z)
   have hl := h.le_trans (x := un z) (y := un y) (z := un x)
   omega
theorem ld_lt {x y : Load} : ldC x y < 0 ↔ x.cls < y.cls ∨ (x.cls = y.cls ∧ (x.opt < y.opt ∨ (x.opt = y.opt ∧ x.weight < y.weight))) := by
 simp only [ldC, orI, zcI]
 grind
theorem ct_lt {x y : Count} : ctC x y < 0 ↔ x.rule < y.rule ∨ (x.rule = y.rule ∧ (x.most < y.most ∨ (x.most = y.most ∧ (x.penalty < y.penalty ∨ (x.penalty = y.penalty ∧ zbr x.loads y.loads < 0))))) := by
 simp only [ctC]
 generalize zbr x.loads y.loads = a at *
 simp only [orI, zcI]
 grind
theorem zjy : TotC ldC := by
 refine ⟨fun x y => ze9, fun x y => ?_, fun x y z => ?_⟩
 · simp only [ldC, orI, zcI]
   grind
 · rw [ld_lt, ld_lt, ld_lt]; omega
theorem ziU : ∀ {a b : List Load}, zbr a b < 0 ↔ 0 < zbr b a
 | [], [] => by simp [zbr]
 | [], _ :: _ => by simp [zbr]
 | _ :: _, [] => by simp [zbr]
 | x :: a, y :: b => by
   have ih := ziU (a := a) (b := b)
   have h1 := zjy.neg x y
   have h2 := zjy.neg y x
   unfold zbr
   split <;> split <;> omega
theorem zj2 : ∀ {a b c : List Load}, zbr a b < 0 → zbr b c < 0 → zbr a c < 0
 | [], [], c, h, _ => by simp [zbr] at h
 | [], _ :: _, [], _, h => by simp [zbr] at h
 | [], _ :: _, _ :: _, _, _ => by simp [zbr]
 | _ :: _, [], c, h, _ => by simp [zbr] at h
 | _ :: _, _ :: _, [], _, h => by simp [zbr] at h
 | x :: a, y :: b, z :: c, h1, h2 => by
   have ih := zj2 (a := a) (b := b) (c := c)
   have t := zjy.trans x y z
   have e1 := ze9 (x := x) (y := y)
   have e2 := ze9 (x := y) (y := z)
   have e3 := ze9 (x := x) (y := z)
   unfold zbr at h1 h2 ⊢
   split at h1
   · split at h2
     · have := t h1 h2
       rw [if_pos (by omega)]; exact this
     · have := e2.1 (by omega); subst this
       rw [if_pos (by omega)]; exact h1
   · have := e1.1 (by omega); subst this
     split at h2
     · rw [if_pos (by assumption)]; exact h2
     · rw [if_neg (by assumption)]; exact ih h1 h2
theorem zlV : TotC zbr := ⟨fun _ _ => zf0, fun _ _ => ziU, fun _ _ _ => zj2⟩
theorem totCt : TotC ctC := by
 refine ⟨fun x y => zpf, fun x y => ?_, fun x y z => ?_⟩
 · have h1 := ziU (a := x.loads) (b := y.loads)
   have h2 := ziU (a := y.loads) (b := x.loads)
   simp only [ctC]
   generalize zbr x.loads y.loads = a at *
   generalize zbr y.loads x.loads = b at *
   simp only [orI, zcI]
   grind
 · have h1 := zlV.trans x.loads y.loads z.loads
   have h2 := zlV.zero x.loads y.loads
   have h3 := zlV.zero y.loads z.loads
   have h4 := zlV.zero x.loads z.loads
   have h5 : zbr x.loads y.loads = 0 → zbr x.loads z.loads = zbr y.loads z.loads := fun e => by rw [h2.1 e]
   have h6 : zbr y.loads z.loads = 0 → zbr x.loads z.loads = zbr x.loads y.loads := fun e => by rw [h3.1 e]
   clear h2 h3 h4
   rw [ct_lt, ct_lt, ct_lt]
   generalize zbr x.loads y.loads = a at *
   generalize zbr y.loads z.loads = b at *
   generalize zbr x.loads z.loads = c at *
   omega
def zhC : List PV → Load
 | [.val (.int _ a), .val (.int _ b), .val (.int _ c)] => ⟨a, b, c⟩
 | _ => ⟨0, 0, 0⟩
theorem ze3 (l : Load) : zhC l.row = l := rfl
def zkW : List PV → Count
 | [.val (.int _ a), .sl _ r, .val (.int _ b), .val (.int _ c)] => ⟨a, r.map zhC, b, c⟩
 | _ => ⟨0, [], 0, 0⟩
theorem zcs (c : Count) : zkW c.row = c := by
 obtain ⟨a, l, b, d⟩ := c
 show Count.mk a ((l.map Load.row).map zhC) b d = _
 rw [List.map_map]
 have : (zhC ∘ Load.row) = id := funext ze3
 rw [this, List.map_id]
theorem zlB (l : List Load) (hne : l ≠ []) (hl : l.length ≤ 100000) :
  qf Tryz.prog 114 [.ms 0 3 0 l.length, .pv (.fn 115 [])] [some ⟨102, 3, false, .p (l.map Load.row)⟩] fun r H' => r = .tup [] ∧ H' = [some ⟨102, 3, false, .p ((srt ldC l).map Load.row)⟩] := by
 have h := c_sortL (l.map Load.row) (fun x y => ldC (zhC x) (zhC y)) (fun x hx y hy => by
  obtain ⟨a, ha, rfl⟩ := List.mem_map.1 hx
  obtain ⟨b, hb, rfl⟩ := List.mem_map.1 hy
  exact zpE a b) (zn1 zjy ze3 l) (fun e => hne (List.map_eq_nil_iff.1 e)) (by rw [List.length_map]; omega)
 rw [List.length_map] at h
 exact h.mono fun r H' ⟨h1, ys, h2, h3, h4⟩ => ⟨h1, by rw [h4, zlY zjy ze3 h2 h3]⟩
theorem zkv (l : List Count) (hne : l ≠ []) (hl : l.length ≤ 100000) (hc : ∀ c ∈ l, c.loads.length ≤ 100000) :
  qf Tryz.prog 116 [.ms 0 4 0 l.length, .pv (.fn 88 [])] [some ⟨78, 4, false, .p (l.map Count.row)⟩] fun r H' => r = .tup [] ∧ H' = [some ⟨78, 4, false, .p ((srt ctC l).map Count.row)⟩] := by
 have h := c_sortC (l.map Count.row) (fun x y => ctC (zkW x) (zkW y)) (fun x hx y hy => by
  obtain ⟨a, ha, rfl⟩ := List.mem_map.1 hx
  obtain ⟨b, hb, rfl⟩ := List.mem_map.1 hy
  rw [zcs, zcs]
  exact zkx a b (hc a ha) (hc b hb)) (zn1 totCt zcs l) (fun e => hne (List.map_eq_nil_iff.1 e)) (by rw [List.length_map]; omega)
 rw [List.length_map] at h
 exact h.mono fun r H' ⟨h1, ys, h2, h3, h4⟩ => ⟨h1, by rw [h4, zlY totCt zcs h2 h3]⟩
end Go.Proofs.YtihpjcmloecaaaaGreat.Cw
namespace Go.Cw
theorem zD.shutK {n nh : Nat} {Γ : zw} {H : zt} {i k c ty z : Nat} {fz : Bool} {r : List PV} {xs : List (List PV)} {r0 : List AV} {x y : AV} {p' : PV} (hi : H[i]? = some (some ⟨ty, z, fz, .m ((xs.map pvs).set k r0)⟩)) (hk : xs[k]? = some r) (hr : r0 = (pvs r).set c x) (hlt : c < r.length)
  (hc : conv H x = some y) (hok : ok1 H x) (hn : i ∉ zby H x) (hle : ALe y (.pv p')) :
  zD n nh Γ H Γ ((app H (frz H (zby H x))).set i (some ⟨ty, z, fz, .p (xs.set k (r.set c p'))⟩)) := by
 have hkl : k < xs.length := (List.getElem?_eq_some_iff.1 hk).1
 refine zD.shutR (o := ⟨ty, z, fz, .m ((xs.map pvs).set k r0)⟩) hi (fun h j q hq => ?_) (fun c t => rfl) (fun j m u hu => ?_) hc hok hn hle
 · rw [List.getElem?_set] at hq
   split at hq
   · rename_i e; subst e
     injection hq with hq; subst hq
     have := h k r0 (by rw [List.getElem?_set_self (by simpa using hkl)])
     rw [hr, List.length_set, zbT, List.length_map] at this
     rw [List.length_set]; exact this
   · rename_i e
     have := h j (pvs q) (by rw [List.getElem?_set_ne e, List.getElem?_map, hq]; rfl)
     rw [zbT, List.length_map] at this; exact this
 · by_cases e : k = j
   · subst e
     simp only [zm] at hu ⊢
     rw [List.getElem?_set_self hkl] at hu
     rw [List.getElem?_set_self (by simpa using hkl), hr]
     simp only [Option.bind_some] at hu ⊢
     by_cases e : c = m
     · subst e
       right
       rw [List.getElem?_set_self hlt] at hu
       injection hu with hu
       exact ⟨hu.symm, List.getElem?_set_self (by rw [zbT, List.length_map]; exact hlt)⟩
     · left
       rw [List.getElem?_set_ne e] at hu ⊢
       rw [zbT, List.getElem?_map]; exact hu
   · left
     simp only [zm] at hu ⊢
     rw [List.getElem?_set_ne e] at hu ⊢
     rw [List.getElem?_map]
     cases h : xs[j]? with
     | none => rw [h] at hu; simp at hu
     | some q => rw [h] at hu; simpa [zbT] using hu
end Go.Cw
namespace Go.Proofs.YtihpjcmloecaaaaGreat.Cw
open Go Go.Cw Go.Proofs Go.RowKit
set_option linter.unusedVariables false
set_option maxRecDepth 100000
set_option maxHeartbeats 4000000
theorem zpX {I : Nat → Prop} {w w' : World} {β' : xf} {I' : Nat → Prop} (hH : HSim I [] [] w) (hb : Below w.heap.size w w') (hf : ∀ (i : Nat) b, β'[i]? = some (some b) → w.heap.size ≤ b.1) (hI : ∀ b, I b → I' b) (hI2 : ∀ b, I' b → I b ∨ w.heap.size ≤ b) (hd : w.drawn ≤ w'.drawn) : Evo I [] w I' β' w' :=
 ⟨hb.os, hb.tape, hb.output, hb.size, fun i b h => by simp at h, fun i b h => .inl (hf i b h), fun b h _ => hb.block b h, fun b h => ⟨hb.block b (hH.imm b h), hI b h⟩, fun b h h2 => (hI2 b h2).elim .inl fun h3 => by omega, fun b t n h => by
   have hlt : b < w.heap.size := by
    unfold World.shape? at h
    rcases Nat.lt_or_ge b w.heap.size with h1 | h1
    · exact h1
    · rw [Array.getElem?_eq_none h1] at h; cases h
   unfold World.shape? at h ⊢
   rw [hb.block b hlt]; exact h, hd⟩
theorem zfU {I : Nat → Prop} {w w' : World} {v : Value} {z : Nat} {te : TypeId} (hH : HSim I [] [] w) (ho : w'.ownsRow w.heap.size te z v 0 []) (hb : Below w.heap.size w w') (hd : w.drawn ≤ w'.drawn) :
  ∃ I' β', HSim I' β' [] w' ∧ ARel I' β' w' (.pv (.sl z [])) v ∧ Evo I [] w I' β' w' := by
 have hsl : ∃ ad cap, v = .slice ad 0 cap := by
  obtain ⟨-, ⟨rfl, -⟩ | ⟨g, cap, cur, rfl, -⟩⟩ := ho
  · exact ⟨_, _, rfl⟩
  · exact ⟨_, _, rfl⟩
 obtain ⟨ad, cap, rfl⟩ := hsl
 exact ⟨I, [], ⟨rfl, fun i o h => by simp at h, fun i j oi oj b b' h => by simp at h, ⟨fun b h => Nat.lt_of_lt_of_le (hH.imm b h) hb.size, hH.imm.gl.mono fun b h => ⟨hb.block b (hH.imm b h), h⟩⟩, fun i b h => by simp at h⟩,
  .pv (.sl (xs := []) (fun _ _ => undef) (Nat.zero_le _) (fun i r h => by simp at h) fun i r j p h => by simp at h), zpX hH hb (fun i b h => by simp at h) (fun b h => h) (fun b h => .inl h) hd⟩
theorem zm7 (l : List Count) (hl : 0 < l.length ∧ l.length ≤ 100000) : qf Tryz.prog 113 [.pv (.sl 4 (l.map Count.row))] [] (fun r H' => r = .ms 0 4 0 l.length ∧ H' = [some ⟨78, 4, false, .p (l.map Count.row)⟩]) := by
 obtain ⟨hl0, hl⟩ := hl
 rcases l with _ | ⟨x, l⟩
 · exact absurd hl0 (by simp)
 refine zh tok mixed 8 rfl (fn := Tryz.f113) (c := Tryz.f113.body.getD .skip) (by kernel_rfl) (by kernel_rfl) (by kernel_rfl) rfl 0 rfl ?_
 repeat' (first | ((show zb _ * _ ≤ _; simp [zb] at *; omega)) | ((show zb _ ≤ _; simp [zb] at *; omega)) | (refine zi (Rows.p ((x :: l).map Count.row)) rfl (zi (x :: l).length (by simp [zb]) ?_)) | refine o1 ?_ | refine o2 ?_ | refine k1 ?_ | refine k2 ?_ | refine k3 ?_ | refine k6 ?_ | refine k7 ?_ | refine And.intro ?_ ?_ | (intro h; first | exact Bool.noConfusion h | exact nz _ h | exact nl h | (simp at h; done) | (simp at h; first | (exfalso; omega) | skip) | skip) | (refine (?_ : z8 _ = zb _); rfl) | (refine (?_ : _ = zb _); simp [zb] <;> omega) | fail)
 exact qC [1] [some ⟨78, 4, false, .p ((x :: l).map Count.row)⟩] rfl rfl ⟨rfl, trivial⟩ (r' := .ms 0 4 0 (x :: l).length) rfl ⟨rfl, rfl⟩
set_option maxHeartbeats 2000000 in
theorem zkr (ad : Option Addr) (cap : Nat) (w : World) : Calls Tryz.prog 113 #[.slice ad 0 cap] w fun e w' => ∃ v', e = .returned v' ∧ w'.ownsRow w.heap.size 78 4 v' 0 [] ∧ Below w.heap.size w w' ∧ w.drawn ≤ w'.drawn := by
 have t4 := Tryz.underlying4; have a4 := Tryz.isAgg4; have z4 := Tryz.sizeOf4; have v4 := Tryz.zeroValue4
 have t9 := Tryz.underlying78; have a9 := Tryz.isAgg78; have z9 := Tryz.sizeOf78; have v9 := Tryz.zeroValue78
 have t28 := Tryz.underlying27; have a28 := Tryz.isAgg27; have z28 := Tryz.sizeOf27; have v28 := Tryz.zeroValue27
 have mx : Tryz.prog.follows .mixedOrders = true := mixed
 have q28 : ∀ (w : World) (a : Option Addr) (n c n' c' : Nat), (binOp .eql 27 (.slice a n c) (.slice none n' c')).run Tryz.prog w = .ok (.bool a.isNone) w := fun w a n c n' c' => Lib.run_eql_slice_nil w _ _ a n c n' c' t28
 have u28 : ∀ w, Sem.run Tryz.prog (underlying 27) w = .ok (TypeDesc.slice 78) w := run_underlying t28
 cases ad with
 | none =>
   go_enter Tryz.func113, Tryz.ntmps113
   go_wp2
   go_ret
   exact ⟨_, rfl, ⟨rfl, .inl ⟨rfl, rfl⟩⟩, Below.refl _ w, Nat.le_refl _⟩
 | some a =>
   go_enter Tryz.func113, Tryz.ntmps113
   go_wp2
   go_ret
   exact ⟨_, rfl, World.ownsRow_made w #[] 0 (Nat.le_refl _) (Nat.zero_le _) rfl, (Below.refl _ w).alloc (Nat.le_refl _) _, Nat.le_refl _⟩
theorem zpS (x0 : Count) : zH Tryz.prog 113 [.pv (.sl 4 [])] (fun r => r = .pv (.sl 4 [])) := by
 refine ⟨(zm7 [x0] ⟨by simp, by simp⟩).1, fun I β w vs hH hs ha => ?_⟩
 have hv := ha 0 _ rfl
 obtain rfl : β = [] := List.eq_nil_of_length_eq_zero hH.len
 obtain ⟨v, rfl⟩ : ∃ v, vs = #[v] := ⟨vs[0]'(by rw [hs]; decide), by
  apply Array.ext
  · exact hs
  · intro i h1 h2
    have : i = 0 := by simp at h2; omega
    subst this; rfl⟩
 have hv : ARel I [] w (.pv (.sl 4 [])) v := hv
 obtain ⟨ad, cap, rfl⟩ : ∃ ad cap, v = .slice ad 0 cap := by
  cases hv with
  | pv h =>
    have h : PRel I w (.sl 4 []) v := h
    cases h with
    | sl u hc h1 h2 => exact ⟨_, _, rfl⟩
 refine (zkr ad cap w).mono ?_
 rintro e w' ⟨v', rfl, ho, hb, hd⟩
 obtain ⟨I', β', h1, h2, h3⟩ := zfU hH ho hb hd
 exact ⟨_, _, I', β', v', rfl, ⟨rfl, rfl⟩, h1, h2, h3⟩
theorem zm4 (l : List Load) (hl : 0 < l.length ∧ l.length ≤ 100000) : qf Tryz.prog 96 [.pv (.sl 3 (l.map Load.row))] [] (fun r H' => r = .ms 0 3 0 l.length ∧ H' = [some ⟨102, 3, false, .p (l.map Load.row)⟩]) := by
 obtain ⟨hl0, hl⟩ := hl
 rcases l with _ | ⟨x, l⟩
 · exact absurd hl0 (by simp)
 refine zh tok mixed 8 rfl (fn := Tryz.f96) (c := Tryz.f96.body.getD .skip) (by kernel_rfl) (by kernel_rfl) (by kernel_rfl) rfl 0 rfl ?_
 repeat' (first | ((show zb _ * _ ≤ _; simp [zb] at *; omega)) | ((show zb _ ≤ _; simp [zb] at *; omega)) | (refine zi (Rows.p ((x :: l).map Load.row)) rfl (zi (x :: l).length (by simp [zb]) ?_)) | refine o1 ?_ | refine o2 ?_ | refine k1 ?_ | refine k2 ?_ | refine k3 ?_ | refine k6 ?_ | refine k7 ?_ | refine And.intro ?_ ?_ | (intro h; first | exact Bool.noConfusion h | exact nz _ h | exact nl h | (simp at h; done) | (simp at h; first | (exfalso; omega) | skip) | skip) | (refine (?_ : z8 _ = zb _); rfl) | (refine (?_ : _ = zb _); simp [zb] <;> omega) | fail)
 exact qC [1] [some ⟨102, 3, false, .p ((x :: l).map Load.row)⟩] rfl rfl ⟨rfl, trivial⟩ (r' := .ms 0 3 0 (x :: l).length) rfl ⟨rfl, rfl⟩
set_option maxHeartbeats 2000000 in
theorem zko (ad : Option Addr) (cap : Nat) (w : World) : Calls Tryz.prog 96 #[.slice ad 0 cap] w fun e w' => ∃ v', e = .returned v' ∧ w'.ownsRow w.heap.size 102 3 v' 0 [] ∧ Below w.heap.size w w' ∧ w.drawn ≤ w'.drawn := by
 have t4 := Tryz.underlying4; have a4 := Tryz.isAgg4; have z4 := Tryz.sizeOf4; have v4 := Tryz.zeroValue4
 have t9 := Tryz.underlying102; have a9 := Tryz.isAgg102; have z9 := Tryz.sizeOf102; have v9 := Tryz.zeroValue102
 have t28 := Tryz.underlying76; have a28 := Tryz.isAgg76; have z28 := Tryz.sizeOf76; have v28 := Tryz.zeroValue76
 have mx : Tryz.prog.follows .mixedOrders = true := mixed
 have q28 : ∀ (w : World) (a : Option Addr) (n c n' c' : Nat), (binOp .eql 76 (.slice a n c) (.slice none n' c')).run Tryz.prog w = .ok (.bool a.isNone) w := fun w a n c n' c' => Lib.run_eql_slice_nil w _ _ a n c n' c' t28
 have u28 : ∀ w, Sem.run Tryz.prog (underlying 76) w = .ok (TypeDesc.slice 102) w := run_underlying t28
 cases ad with
 | none =>
   go_enter Tryz.func96, Tryz.ntmps96
   go_wp2
   go_ret
   exact ⟨_, rfl, ⟨rfl, .inl ⟨rfl, rfl⟩⟩, Below.refl _ w, Nat.le_refl _⟩
 | some a =>
   go_enter Tryz.func96, Tryz.ntmps96
   go_wp2
   go_ret
   exact ⟨_, rfl, World.ownsRow_made w #[] 0 (Nat.le_refl _) (Nat.zero_le _) rfl, (Below.refl _ w).alloc (Nat.le_refl _) _, Nat.le_refl _⟩
theorem zkz (x0 : Load) : zH Tryz.prog 96 [.pv (.sl 3 [])] (fun r => r = .pv (.sl 3 [])) := by
 refine ⟨(zm4 [x0] ⟨by simp, by simp⟩).1, fun I β w vs hH hs ha => ?_⟩
 have hv := ha 0 _ rfl
 obtain rfl : β = [] := List.eq_nil_of_length_eq_zero hH.len
 obtain ⟨v, rfl⟩ : ∃ v, vs = #[v] := ⟨vs[0]'(by rw [hs]; decide), by
  apply Array.ext
  · exact hs
  · intro i h1 h2
    have : i = 0 := by simp at h2; omega
    subst this; rfl⟩
 have hv : ARel I [] w (.pv (.sl 3 [])) v := hv
 obtain ⟨ad, cap, rfl⟩ : ∃ ad cap, v = .slice ad 0 cap := by
  cases hv with
  | pv h =>
    have h : PRel I w (.sl 3 []) v := h
    cases h with
    | sl u hc h1 h2 => exact ⟨_, _, rfl⟩
 refine (zko ad cap w).mono ?_
 rintro e w' ⟨v', rfl, ho, hb, hd⟩
 obtain ⟨I', β', h1, h2, h3⟩ := zfU hH ho hb hd
 exact ⟨_, _, I', β', v', rfl, ⟨rfl, rfl⟩, h1, h2, h3⟩
theorem zm5 (l : List Int) (hl : 0 < l.length ∧ l.length ≤ 100000) : qf Tryz.prog 44 [.pv (.sl 1 (l.map zr))] [] (fun r H' => r = .ms 0 1 0 l.length ∧ H' = [some ⟨3, 1, false, .p (l.map zr)⟩]) := by
 obtain ⟨hl0, hl⟩ := hl
 rcases l with _ | ⟨x, l⟩
 · exact absurd hl0 (by simp)
 refine zh tok mixed 8 rfl (fn := Tryz.f44) (c := Tryz.f44.body.getD .skip) (by kernel_rfl) (by kernel_rfl) (by kernel_rfl) rfl 0 rfl ?_
 repeat' (first | ((show zb _ * _ ≤ _; simp [zb] at *; omega)) | ((show zb _ ≤ _; simp [zb] at *; omega)) | (refine zi (Rows.p ((x :: l).map zr)) rfl (zi (x :: l).length (by simp [zb]) ?_)) | refine o1 ?_ | refine o2 ?_ | refine k1 ?_ | refine k2 ?_ | refine k3 ?_ | refine k6 ?_ | refine k7 ?_ | refine And.intro ?_ ?_ | (intro h; first | exact Bool.noConfusion h | exact nz _ h | exact nl h | (simp at h; done) | (simp at h; first | (exfalso; omega) | skip) | skip) | (refine (?_ : z8 _ = zb _); rfl) | (refine (?_ : _ = zb _); simp [zb] <;> omega) | fail)
 exact qC [1] [some ⟨3, 1, false, .p ((x :: l).map zr)⟩] rfl rfl ⟨rfl, trivial⟩ (r' := .ms 0 1 0 (x :: l).length) rfl ⟨rfl, rfl⟩
set_option maxHeartbeats 2000000 in
theorem zkp (ad : Option Addr) (cap : Nat) (w : World) : Calls Tryz.prog 44 #[.slice ad 0 cap] w fun e w' => ∃ v', e = .returned v' ∧ w'.ownsRow w.heap.size 3 1 v' 0 [] ∧ Below w.heap.size w w' ∧ w.drawn ≤ w'.drawn := by
 have t4 := Tryz.underlying4; have a4 := Tryz.isAgg4; have z4 := Tryz.sizeOf4; have v4 := Tryz.zeroValue4
 have t9 := Tryz.underlying3; have a9 := Tryz.isAgg3; have z9 := Tryz.sizeOf3; have v9 := Tryz.zeroValue3
 have t28 := Tryz.underlying22; have a28 := Tryz.isAgg22; have z28 := Tryz.sizeOf22; have v28 := Tryz.zeroValue22
 have mx : Tryz.prog.follows .mixedOrders = true := mixed
 have q28 : ∀ (w : World) (a : Option Addr) (n c n' c' : Nat), (binOp .eql 22 (.slice a n c) (.slice none n' c')).run Tryz.prog w = .ok (.bool a.isNone) w := fun w a n c n' c' => Lib.run_eql_slice_nil w _ _ a n c n' c' t28
 have u28 : ∀ w, Sem.run Tryz.prog (underlying 22) w = .ok (TypeDesc.slice 3) w := run_underlying t28
 cases ad with
 | none =>
   go_enter Tryz.func44, Tryz.ntmps44
   go_wp2
   go_ret
   exact ⟨_, rfl, ⟨rfl, .inl ⟨rfl, rfl⟩⟩, Below.refl _ w, Nat.le_refl _⟩
 | some a =>
   go_enter Tryz.func44, Tryz.ntmps44
   go_wp2
   go_ret
   exact ⟨_, rfl, World.ownsRow_made w #[] 0 (Nat.le_refl _) (Nat.zero_le _) rfl, (Below.refl _ w).alloc (Nat.le_refl _) _, Nat.le_refl _⟩
theorem zkA (x0 : Int) : zH Tryz.prog 44 [.pv (.sl 1 [])] (fun r => r = .pv (.sl 1 [])) := by
 refine ⟨(zm5 [x0] ⟨by simp, by simp⟩).1, fun I β w vs hH hs ha => ?_⟩
 have hv := ha 0 _ rfl
 obtain rfl : β = [] := List.eq_nil_of_length_eq_zero hH.len
 obtain ⟨v, rfl⟩ : ∃ v, vs = #[v] := ⟨vs[0]'(by rw [hs]; decide), by
  apply Array.ext
  · exact hs
  · intro i h1 h2
    have : i = 0 := by simp at h2; omega
    subst this; rfl⟩
 have hv : ARel I [] w (.pv (.sl 1 [])) v := hv
 obtain ⟨ad, cap, rfl⟩ : ∃ ad cap, v = .slice ad 0 cap := by
  cases hv with
  | pv h =>
    have h : PRel I w (.sl 1 []) v := h
    cases h with
    | sl u hc h1 h2 => exact ⟨_, _, rfl⟩
 refine (zkp ad cap w).mono ?_
 rintro e w' ⟨v', rfl, ho, hb, hd⟩
 obtain ⟨I', β', h1, h2, h3⟩ := zfU hH ho hb hd
 exact ⟨_, _, I', β', v', rfl, ⟨rfl, rfl⟩, h1, h2, h3⟩
end Go.Proofs.YtihpjcmloecaaaaGreat.Cw
namespace Go.Proofs.YtihpjcmloecaaaaGreat.Cw
open Go Go.Cw Go.Proofs
set_option linter.unusedVariables false
set_option maxRecDepth 100000
set_option maxHeartbeats 8000000
theorem zjD {P : Program} {ρ : Go.Shelf.Ren} (L : Go.Proofs.SlLaysF0.n6 P ρ) (he : xA P (ρ.f 6)) (z : Nat) (g : FuncId) (caps : List PV) : zH P (ρ.f 6) [.pv (.sl z []), .pv (.fn g caps)] (fun r => r = .tup []) := by
 refine ⟨he, fun I β w vs hH hvs hrel => ?_⟩
 obtain ⟨v0, v1, rfl⟩ : ∃ v0 v1, vs = #[v0, v1] := by
  match vs, hvs with
  | ⟨[v, v']⟩, _ => exact ⟨v, v', rfl⟩
 have h0 := hrel 0 _ rfl
 cases h0 with
 | pv h0 =>
   change PRel I w (.sl z []) v0 at h0
   obtain ⟨ad, cap, rfl⟩ : ∃ ad cap, v0 = .slice ad 0 cap := by
    cases h0 with
    | sl u hc h1 h2 => exact ⟨_, _, rfl⟩
   refine (Go.Proofs.AnyF.slices_SortFunc_none L ad cap v1 w).mono ?_
   rintro e w' ⟨rfl, rfl⟩
   exact ⟨_, [], I, β, _, rfl, ⟨rfl, rfl⟩, hH, .tup rfl (fun j c hj => by simp at hj), Evo.refl I β w'⟩
theorem c_sortLE : zH Tryz.prog 114 [.pv (.sl 3 (List.map Load.row [])), .pv (.fn 115 [])] (fun r => r = .tup []) :=
 zjD zoM (ent Tryz.func114 (by kernel_rfl) (by kernel_rfl)) 3 115 []
theorem c_sortCE : zH Tryz.prog 116 [.pv (.sl 4 (List.map Count.row [])), .pv (.fn 88 [])] (fun r => r = .tup []) :=
 zjD zmr (ent Tryz.func116 (by kernel_rfl) (by kernel_rfl)) 4 88 []
def zcz (g : Load → Int) (l : Load) : Load := ⟨l.cls, g l, l.weight⟩
def zay (g : Load → Int) (c : Count) : Count := ⟨c.rule, srt ldC (c.loads.map (zcz g)), c.most, c.penalty⟩
def xH (g : Load → Int) (l : List Count) : List Count := srt ctC (l.map (zay g))
theorem xS {α : Type} {l : List α} {i : Nat} {x : α} (h : l[i]? = some x) : l.take (i + 1) = l.take i ++ [x] := by
 rw [List.take_add_one, h]; rfl
theorem zoZ {α : Type} {f : α → α} {l : List α} {i : Nat} {x : α} (h : l[i]? = some x) : ((l.take i).map f ++ l.drop i)[i]? = some x := by
 have hi := (List.getElem?_eq_some_iff.1 h).1
 rw [List.getElem?_append_right (by simp; omega)]
 simp only [List.length_map, List.length_take]
 rw [List.getElem?_drop, ← h]
 congr 1; omega
theorem zmz {α : Type} {f : α → α} {l : List α} {i : Nat} {x : α} (h : l[i]? = some x) : ((l.take i).map f ++ l.drop i).set i (f x) = (l.take (i + 1)).map f ++ l.drop (i + 1) := by
 have hi := (List.getElem?_eq_some_iff.1 h).1
 rw [xS h, List.map_append, List.append_assoc]
 rw [List.set_append_right _ _ (by simp; omega)]
 rw [zbu h]
 have : i - ((l.take i).map f).length = 0 := by simp; omega
 rw [this]; rfl
theorem zmA {α : Type} {f : α → α} {l : List α} : (l.take l.length).map f ++ l.drop l.length = l.map f := by rw [List.take_length, List.drop_length, List.append_nil]
theorem zpL (m : Model) (f : FuncId) (caps : List PV) (g : Load → Int) (hn : m.counts.length ≤ 1000) (hl : ∀ c ∈ m.counts, c.loads.length ≤ 1000)
  (hf : ∀ c ∈ m.counts, ∀ l ∈ c.loads, zH Tryz.prog f (ag l.row :: pvs caps) (fun r => r = zg .i64 (g l))) : zH Tryz.prog 83 [ag m.cells, .pv (.fn f caps)] (fun r => Leq r (.pv (.sl 4 ((xH g m.counts).map Count.row)))) := by
 obtain ⟨MC, MP, CC, MR⟩ := m
 dsimp only at hn hl hf
 have hcc := zm7 CC
 have hce : zH Tryz.prog 113 [.pv (.sl 4 (List.map Count.row []))] (fun r => r = .pv (.sl 4 (List.map Count.row []))) := zpS ⟨0, [], 0, 0⟩
 refine zh tok mixed 50 rfl (fn := Tryz.f83) (c := Tryz.f83.body.getD .skip) (by kernel_rfl) (by kernel_rfl) (by kernel_rfl) rfl 0 rfl ?_
 rcases CC with _ | ⟨c0, C⟩
 · repeat' (first | ((change zp _ _ _ _ _; refine qw rfl (by repeat' (first | trivial | refine And.intro ?_ ?_ | (show 0 + _ ≤ List.length _; simp))) zW.refl hce ?_; rintro _ rfl)) | refine o1 ?_ | refine o2 ?_ | refine k1 ?_ | refine k2 ?_ | refine k4 ?_ | refine za ?_ | fail)
   refine qu (fun u : Nat => [(15, zg .i64 0)]) (fun _ => []) (fun _ => True) (fun _ => 0) 0 trivial (by repeat' (first | exact trivial | exact ⟨_, rfl, ALe.refl⟩ | refine And.intro ?_ ?_)) (by repeat' (first | exact trivial | exact rfl | refine And.intro ?_ ?_)) ?_
   intro _ _
   repeat' (first | refine o1 ?_ | refine o2 ?_ | refine k1 ?_ | refine k2 ?_ | refine k3 ?_ | refine k7 ?_ | refine k8 ?_ | refine And.intro ?_ ?_ | (intro h; first | exact Bool.noConfusion h | exact nz _ h | exact nl h | (simp at h; done) | (simp at h; first | (exfalso; omega) | skip) | skip) | (change zx _ _ _ _; refine zd rfl trivial ?_) | (change zp _ _ _ _ _; refine zC rfl (by repeat' (first | trivial | refine And.intro ?_ ?_ | (show 0 + _ ≤ List.length _; simp))) zW.refl (c_sortCE) rfl ?_) | fail)
   exact ⟨by rw [show xH g [] = [] by simp [xH, srt]]; exact ALe.refl⟩
 · have hcc := hcc ⟨by simp, by simp at hn ⊢; omega⟩
   generalize hCC : c0 :: C = CC at *
   have hne : CC ≠ [] := by subst hCC; simp
   have hpos : 0 < CC.length := List.length_pos_iff.2 hne
   repeat' (first | ((change zp _ _ _ _ _; refine zaL [] [] [.pv (.sl 4 (CC.map Count.row))] rfl trivial rfl hcc ?_; rintro r H' ⟨rfl, rfl⟩)) | refine o1 ?_ | refine o2 ?_ | refine k1 ?_ | refine k2 ?_ | refine k4 ?_ | refine And.intro ?_ ?_ | exact Nat.le_of_ble_eq_true rfl | fail)
   refine zB (fun i : Nat => [(1, .pv (.fn f caps)), (5, .ms 1 4 0 CC.length), (13, .ms 1 4 0 CC.length), (14, zg .i64 CC.length), (15, zg .i64 i)]) (fun i => [none, some ⟨78, 4, false, .p (((CC.take i).map (zay g) ++ CC.drop i).map Count.row)⟩]) (fun i => i ≤ CC.length) (fun i => CC.length - i) 0 (Nat.zero_le _) ?_ ?_
   · exact zJ [0, 1] rfl rfl (by repeat' (first | exact trivial | exact rfl | refine And.intro ?_ ?_)) (by repeat' (first | exact trivial | exact rfl | refine And.intro ?_ ?_))
   intro i hi
   rcases Nat.lt_or_ge i CC.length with hlt | hge
   · obtain ⟨c, hc⟩ := qj hlt
     have hcr : (((CC.take i).map (zay g) ++ CC.drop i).map Count.row)[i]? = some c.row := zf (zoZ hc)
     have hnx := zmz (f := zay g) hc
     have hll := hl c (List.mem_of_getElem? hc)
     have hg := hf c (List.mem_of_getElem? hc)
     obtain ⟨cr, cl, cm, cp⟩ := c
     dsimp only at hll hg
     have hcl := zm4 cl
     have hcle : zH Tryz.prog 96 [.pv (.sl 3 (List.map Load.row []))] (fun r => r = .pv (.sl 3 (List.map Load.row []))) := zkz ⟨0, 0, 0⟩
     rcases cl with _ | ⟨l0, L0⟩
     · have hset : (((CC.take i).map (zay g) ++ CC.drop i).map Count.row).set i (xW 1 [.sl 3 (List.map Load.row [])] (Count.row ⟨cr, [], cm, cp⟩)) = ((CC.take (i + 1)).map (zay g) ++ CC.drop (i + 1)).map Count.row := by
        have h0 : (zay g ⟨cr, [], cm, cp⟩).row = Count.row ⟨cr, [], cm, cp⟩ := by unfold zay; rw [show srt ldC (List.map (zcz g) []) = [] by simp [srt]]
        rw [← hnx, List.map_set, h0]; rfl
       repeat' (first | (refine qp i rfl hlt ?_) | (refine ⟨_, hcr, ?_⟩) | ((change zp _ _ _ _ _; refine qw rfl (by repeat' (first | trivial | refine And.intro ?_ ?_ | (show 0 + _ ≤ List.length _; simp))) zW.refl hcle ?_; rintro _ rfl)) | refine o1 ?_ | refine o2 ?_ | refine k1 ?_ | refine k2 ?_ | refine k3 ?_ | refine k4 ?_ | refine k6 ?_ | refine And.intro ?_ ?_ | (intro h; first | exact Bool.noConfusion h | exact nz _ h | exact nl h | (simp at h; done) | (simp at h; first | (exfalso; omega) | skip) | skip) | exact (by kernel_rfl : zn _ _ = true) | refine za ?_ | refine zL ?_ | fail)
       refine zB (fun u : Nat => [(1, .pv (.fn f caps)), (5, .ms 1 4 0 CC.length), (13, .ms 1 4 0 CC.length), (14, zg .i64 CC.length), (15, zg .i64 i), (6, zg .i64 i), (8, .pv (.sl 3 (List.map Load.row []))), (24, zg .i64 0), (25, zg .i64 0)]) (fun _ => [none, some ⟨78, 4, false, .p (((CC.take i).map (zay g) ++ CC.drop i).map Count.row)⟩]) (fun _ => True) (fun _ => 0) 0 trivial (zJ [0, 1] rfl rfl (by repeat' (first | exact trivial | exact rfl | refine And.intro ?_ ?_)) (by repeat' (first | exact trivial | exact rfl | refine And.intro ?_ ?_))) ?_
       intro _ _
       repeat' (first | (refine qp i rfl hlt ?_) | (refine ⟨_, hcr, (Nat.le_of_ble_eq_true rfl), ?_⟩) | (refine zi _ hset ?_) | refine o1 ?_ | refine o2 ?_ | refine k1 ?_ | refine k2 ?_ | refine k3 ?_ | refine k8 ?_ | refine And.intro ?_ ?_ | (intro h; first | exact Bool.noConfusion h | exact nz _ h | exact nl h | (simp at h; done) | (simp at h; first | (exfalso; omega) | skip) | skip) | refine zL ?_ | refine zc (by omega) (by omega) ?_ | (change zp _ _ _ _ _; refine zC rfl (by repeat' (first | trivial | refine And.intro ?_ ?_ | (show 0 + _ ≤ List.length _; simp))) zW.refl (c_sortLE) rfl ?_) | fail)
       exact ⟨i + 1, by omega, by omega, zJ [0, 1] rfl rfl (by repeat' (first | exact trivial | exact rfl | refine And.intro ?_ ?_)) (by repeat' (first | exact trivial | exact rfl | refine And.intro ?_ ?_))⟩
     · have hcl := hcl ⟨by simp, by omega⟩
       generalize hLL : l0 :: L0 = LL at *
       have hne2 : LL ≠ [] := by subst hLL; simp
       repeat' (first | (refine qp i rfl hlt ?_) | (refine ⟨_, hcr, ?_⟩) | ((change zp _ _ _ _ _; refine zaL [] [] [.pv (.sl 3 (LL.map Load.row))] rfl trivial rfl hcl ?_; rintro r H' ⟨rfl, rfl⟩)) | refine o1 ?_ | refine o2 ?_ | refine k1 ?_ | refine k2 ?_ | refine k3 ?_ | refine k4 ?_ | refine k6 ?_ | refine And.intro ?_ ?_ | (intro h; first | exact Bool.noConfusion h | exact nz _ h | exact nl h | (simp at h; done) | (simp at h; first | (exfalso; omega) | skip) | skip) | exact Nat.le_of_ble_eq_true rfl | exact (by kernel_rfl : zn _ _ = true) | refine zL ?_ | fail)
       refine zB (fun k : Nat => [(1, .pv (.fn f caps)), (5, .ms 1 4 0 CC.length), (13, .ms 1 4 0 CC.length), (14, zg .i64 CC.length), (15, zg .i64 i), (6, zg .i64 i), (8, .ms 2 3 0 LL.length), (24, zg .i64 LL.length), (25, zg .i64 k)]) (fun k => [none, some ⟨78, 4, false, .p (((CC.take i).map (zay g) ++ CC.drop i).map Count.row)⟩, some ⟨102, 3, false, .p (((LL.take k).map (zcz g) ++ LL.drop k).map Load.row)⟩]) (fun k => k ≤ LL.length) (fun k => LL.length - k) 0 (Nat.zero_le _) (zJ [0, 1, 3] rfl rfl (by repeat' (first | exact trivial | exact rfl | refine And.intro ?_ ?_)) (by repeat' (first | exact trivial | exact rfl | refine And.intro ?_ ?_))) ?_
       intro k hk
       rcases Nat.lt_or_ge k LL.length with hlk | hgk
       · obtain ⟨x, hx⟩ := qj hlk
         have hxr : (((LL.take k).map (zcz g) ++ LL.drop k).map Load.row)[k]? = some x.row := zf (zoZ hx)
         have hnk := zmz (f := zcz g) hx
         have hgx := hg x (List.mem_of_getElem? hx)
         have hsetk : (((LL.take k).map (zcz g) ++ LL.drop k).map Load.row).set k (xW 1 [ei (g x)] x.row) = ((LL.take (k + 1)).map (zcz g) ++ LL.drop (k + 1)).map Load.row := by rw [← hnk, List.map_set]; rfl
         repeat' (first | (refine qp k rfl hlk ?_) | (refine ⟨_, hxr, (Nat.le_of_ble_eq_true rfl), ?_⟩) | (refine ⟨_, hxr, ?_⟩) | (refine zi _ hsetk ?_) | refine o1 ?_ | refine o2 ?_ | refine k1 ?_ | refine k2 ?_ | refine k3 ?_ | refine k4 ?_ | refine k6 ?_ | refine And.intro ?_ ?_ | (intro h; first | exact Bool.noConfusion h | exact nz _ h | exact nl h | (simp at h; done) | (simp at h; first | (exfalso; omega) | skip) | skip) | refine zL ?_ | refine zc (by omega) (by omega) ?_ | (change zp _ _ (_ ++ pvs _) _ _; refine zbM rfl (by repeat' (first | trivial | refine And.intro ?_ ?_ | (show 0 + _ ≤ List.length _; simp))) (hgx) rfl ?_) | fail)
         exact ⟨k + 1, by omega, by omega, zJ [0, 1, 2] rfl rfl (by repeat' (first | exact trivial | exact rfl | refine And.intro ?_ ?_)) (by repeat' (first | exact trivial | exact rfl | refine And.intro ?_ ?_))⟩
       · obtain rfl : k = LL.length := by omega
         rw [zmA]
         have hso := zlB (LL.map (zcz g)) (by simpa using hne2) (by rw [List.length_map]; omega)
         rw [List.length_map] at hso
         have hm : (List.map pvs (((CC.take i).map (zay g) ++ CC.drop i).map Count.row)).set i (xW (0 + 1) (cellsOf (AV.ms 2 3 0 LL.length)) (pvs (Count.row ⟨cr, LL, cm, cp⟩))) = (List.map pvs (((CC.take i).map (zay g) ++ CC.drop i).map Count.row)).set i ((pvs (Count.row ⟨cr, LL, cm, cp⟩)).set 1 (AV.ms 2 3 0 LL.length)) := rfl
         have hfin : (((CC.take i).map (zay g) ++ CC.drop i).map Count.row).set i ((Count.row ⟨cr, LL, cm, cp⟩).set 1 (.sl 3 ((srt ldC (LL.map (zcz g))).map Load.row))) = ((CC.take (i + 1)).map (zay g) ++ CC.drop (i + 1)).map Count.row := by rw [← hnx, List.map_set]; rfl
         repeat' (first | ((change zp _ _ _ _ _; refine qX (i := 2) rfl (fun _ _ => rfl) [.ms 0 3 0 LL.length, .pv (.fn 115 [])] rfl hso ?_; rintro r H' ⟨rfl, rfl⟩; refine ⟨_, rfl, fun _ _ => rfl, fun _ _ => rfl, ?_⟩)) | (refine qp i rfl hlt ?_) | (refine ⟨_, hcr, (Nat.le_of_ble_eq_true rfl), ?_⟩) | (refine zi _ hm ?_) | refine o1 ?_ | refine o2 ?_ | refine k1 ?_ | refine k2 ?_ | refine k3 ?_ | refine k8 ?_ | refine And.intro ?_ ?_ | (intro h; first | exact Bool.noConfusion h | exact nz _ h | exact nl h | (simp at h; done) | (simp at h; first | (exfalso; omega) | skip) | skip) | refine zL ?_ | refine zc (by omega) (by omega) ?_ | fail)
         generalize ((CC.take i).map (zay g) ++ CC.drop i).map Count.row = XS at *
         refine ⟨i + 1, by omega, by omega, zD.trans (zD.shutK (i := 1) (k := i) (c := 1) (r := Count.row ⟨cr, LL, cm, cp⟩) (xs := XS) (x := .ms 2 3 0 LL.length) (p' := .sl 3 ((srt ldC (LL.map (zcz g))).map Load.row)) rfl hcr rfl (by simp [Count.row]) rfl ?_ ?_ (ALe.pv (zei (f := Load.row) (by rw [zd3, List.length_map]; exact Nat.le_refl _)))) ?_⟩
         · show 0 + LL.length ≤ _
           rw [List.length_map, zd3, List.length_map]; omega
         · show ¬ (1 ∈ ([2] : List Nat))
           decide
         · rw [hfin]
           exact zJ [0, 1] rfl rfl (by repeat' (first | exact trivial | exact rfl | refine And.intro ?_ ?_)) (by repeat' (first | exact trivial | exact rfl | refine And.intro ?_ ?_))
   · obtain rfl : i = CC.length := by omega
     rw [zmA]
     have hso := zkv (CC.map (zay g)) (by simpa using hne) (by rw [List.length_map]; omega) (fun c hc => by
      obtain ⟨d, hd, rfl⟩ := List.mem_map.1 hc
      have := hl d hd
      show (srt ldC (d.loads.map (zcz g))).length ≤ _
      rw [zd3, List.length_map]; omega)
     rw [List.length_map] at hso
     repeat' (first | ((change zp _ _ _ _ _; refine qX (i := 1) rfl (fun _ _ => rfl) [.ms 0 4 0 CC.length, .pv (.fn 88 [])] rfl hso ?_; rintro r H' ⟨rfl, rfl⟩; refine ⟨_, rfl, fun _ _ => rfl, fun _ _ => rfl, ?_⟩)) | refine o1 ?_ | refine o2 ?_ | refine k1 ?_ | refine k2 ?_ | refine k3 ?_ | refine k7 ?_ | refine k8 ?_ | refine And.intro ?_ ?_ | (intro h; first | exact Bool.noConfusion h | exact nz _ h | exact nl h | (simp at h; done) | (simp at h; first | (exfalso; omega) | skip) | skip) | fail)
     refine zd rfl (by repeat' (first | (show 0 + _ ≤ List.length _; simp [zd3]))) ?_
     exact ⟨ALe.pv (zei (f := Count.row) (l := xH g CC) (by unfold xH; rw [zd3, List.length_map]; exact Nat.le_refl _))⟩
theorem zm2 (m : Model) (f : FuncId) (caps : List PV) (g : Load → Int) (hn : m.counts.length ≤ 1000) (hl : ∀ c ∈ m.counts, c.loads.length ≤ 1000)
  (hf : ∀ c ∈ m.counts, ∀ l ∈ c.loads, zH Tryz.prog f (ag l.row :: pvs caps) (fun r => r = zg .i64 (g l))) : zH Tryz.prog 83 [ag m.cells, .pv (.fn f caps)] (fun r => r = .pv (.sl 4 ((xH g m.counts).map Count.row))) :=
 (zpL m f caps g hn hl hf).weak fun r k => ⟨_, k.le, rfl⟩
end Go.Proofs.YtihpjcmloecaaaaGreat.Cw
namespace Go.Proofs.YtihpjcmloecaaaaGreat.Cw
open Go Go.Cw Go.Proofs Go.RowKit
set_option linter.unusedVariables false
set_option maxRecDepth 100000
set_option maxHeartbeats 8000000
theorem zm6 (l : List Charge) (hl : 0 < l.length ∧ l.length ≤ 100000) : qf Tryz.prog 95 [.pv (.sl 2 (l.map Charge.row))] [] (fun r H' => r = .ms 0 2 0 l.length ∧ H' = [some ⟨98, 2, false, .p (l.map Charge.row)⟩]) := by
 obtain ⟨hl0, hl⟩ := hl
 rcases l with _ | ⟨x, l⟩
 · exact absurd hl0 (by simp)
 refine zh tok mixed 8 rfl (fn := Tryz.f95) (c := Tryz.f95.body.getD .skip) (by kernel_rfl) (by kernel_rfl) (by kernel_rfl) rfl 0 rfl ?_
 repeat' (first | ((show zb _ * _ ≤ _; simp [zb] at *; omega)) | ((show zb _ ≤ _; simp [zb] at *; omega)) | (refine zi (Rows.p ((x :: l).map Charge.row)) rfl (zi (x :: l).length (by simp [zb]) ?_)) | refine o1 ?_ | refine o2 ?_ | refine k1 ?_ | refine k2 ?_ | refine k3 ?_ | refine k6 ?_ | refine k7 ?_ | refine And.intro ?_ ?_ | (intro h; first | exact Bool.noConfusion h | exact nz _ h | exact nl h | (simp at h; done) | (simp at h; first | (exfalso; omega) | skip) | skip) | (refine (?_ : z8 _ = zb _); rfl) | (refine (?_ : _ = zb _); simp [zb] <;> omega) | fail)
 exact qC [1] [some ⟨98, 2, false, .p ((x :: l).map Charge.row)⟩] rfl rfl ⟨rfl, trivial⟩ (r' := .ms 0 2 0 (x :: l).length) rfl ⟨rfl, rfl⟩
set_option maxHeartbeats 2000000 in
theorem zkq (ad : Option Addr) (cap : Nat) (w : World) : Calls Tryz.prog 95 #[.slice ad 0 cap] w fun e w' => ∃ ad', e = .returned (.slice ad' 0 0) ∧ w'.ownsRow w.heap.size 98 2 (.slice ad' 0 0) 0 [] ∧ Below w.heap.size w w' ∧ w.drawn ≤ w'.drawn := by
 have t4 := Tryz.underlying4; have a4 := Tryz.isAgg4; have z4 := Tryz.sizeOf4; have v4 := Tryz.zeroValue4
 have t9 := Tryz.underlying98; have a9 := Tryz.isAgg98; have z9 := Tryz.sizeOf98; have v9 := Tryz.zeroValue98
 have t28 := Tryz.underlying60; have a28 := Tryz.isAgg60; have z28 := Tryz.sizeOf60; have v28 := Tryz.zeroValue60
 have mx : Tryz.prog.follows .mixedOrders = true := mixed
 have q28 : ∀ (w : World) (a : Option Addr) (n c n' c' : Nat), (binOp .eql 60 (.slice a n c) (.slice none n' c')).run Tryz.prog w = .ok (.bool a.isNone) w := fun w a n c n' c' => Lib.run_eql_slice_nil w _ _ a n c n' c' t28
 have u28 : ∀ w, Sem.run Tryz.prog (underlying 60) w = .ok (TypeDesc.slice 98) w := run_underlying t28
 cases ad with
 | none =>
   go_enter Tryz.func95, Tryz.ntmps95
   go_wp2
   go_ret
   exact ⟨_, rfl, ⟨rfl, .inl ⟨rfl, rfl⟩⟩, Below.refl _ w, Nat.le_refl _⟩
 | some a =>
   go_enter Tryz.func95, Tryz.ntmps95
   go_wp2
   go_ret
   exact ⟨_, rfl, World.ownsRow_made w #[] 0 (Nat.le_refl _) (Nat.zero_le _) rfl, (Below.refl _ w).alloc (Nat.le_refl _) _, Nat.le_refl _⟩
theorem zpR (x0 : Charge) : zH Tryz.prog 95 [.pv (.sl 2 [])] (fun r => r = .clip 2 []) := by
 refine ⟨(zm6 [x0] ⟨by simp, by simp⟩).1, fun I β w vs hH hs ha => ?_⟩
 have hv := ha 0 _ rfl
 obtain rfl : β = [] := List.eq_nil_of_length_eq_zero hH.len
 obtain ⟨v, rfl⟩ : ∃ v, vs = #[v] := ⟨vs[0]'(by rw [hs]; decide), by
  apply Array.ext
  · exact hs
  · intro i h1 h2
    have : i = 0 := by simp at h2; omega
    subst this; rfl⟩
 have hv : ARel I [] w (.pv (.sl 2 [])) v := hv
 obtain ⟨ad, cap, rfl⟩ : ∃ ad cap, v = .slice ad 0 cap := by
  cases hv with
  | pv h =>
    have h : PRel I w (.sl 2 []) v := h
    cases h with
    | sl u hc h1 h2 => exact ⟨_, _, rfl⟩
 refine (zkq ad cap w).mono ?_
 rintro e w' ⟨v', rfl, ho, hb, hd⟩
 obtain ⟨I', β', h1, h2, h3⟩ := zfU hH ho hb hd
 refine ⟨_, _, I', β', _, rfl, ⟨rfl, rfl⟩, h1, ?_, h3⟩
 cases h2 with
 | pv h => exact .clip (n := 0) h
theorem zpO (l : List Load) (hl : 0 < l.length ∧ l.length ≤ 100000) : zH Tryz.prog 96 [.pv (.sl 3 (l.map Load.row))] (fun r => r = .pv (.sl 3 (l.map Load.row))) := by
 obtain ⟨hl0, hl⟩ := hl
 rcases l with _ | ⟨x, l⟩
 · exact absurd hl0 (by simp)
 refine zh tok mixed 8 rfl (fn := Tryz.f96) (c := Tryz.f96.body.getD .skip) (by kernel_rfl) (by kernel_rfl) (by kernel_rfl) rfl 0 rfl ?_
 repeat' (first | ((show zb _ * _ ≤ _; simp [zb] at *; omega)) | ((show zb _ ≤ _; simp [zb] at *; omega)) | (refine zi (Rows.p ((x :: l).map Load.row)) rfl (zi (x :: l).length (by simp [zb]) ?_)) | refine o1 ?_ | refine o2 ?_ | refine k1 ?_ | refine k2 ?_ | refine k3 ?_ | refine k6 ?_ | refine k7 ?_ | refine And.intro ?_ ?_ | (intro h; first | exact Bool.noConfusion h | exact nz _ h | exact nl h | (simp at h; done) | (simp at h; first | (exfalso; omega) | skip) | skip) | (refine (?_ : z8 _ = zb _); rfl) | (refine (?_ : _ = zb _); simp [zb] <;> omega) | fail)
 refine zd (r0 := .pv (.sl 3 (((x :: l).map Load.row).drop 0 |>.take (x :: l).length))) rfl ?_ ?_
 · show 0 + _ ≤ List.length _
   rw [List.length_map, Nat.zero_add]; exact Nat.le_refl _
 · rw [List.drop_zero, List.take_of_length_le (by rw [List.length_map]; exact Nat.le_refl _)]
theorem zpN (l : List Load) (hl : l.length ≤ 100000) : zH Tryz.prog 96 [.pv (.sl 3 (l.map Load.row))] (fun r => r = .pv (.sl 3 (l.map Load.row))) := by
 rcases l with _ | ⟨x, l⟩
 · exact zkz ⟨0, 0, 0⟩
 · exact zpO (x :: l) ⟨by simp, hl⟩
theorem zpQ (l : List Int) (hl : 0 < l.length ∧ l.length ≤ 100000) : zH Tryz.prog 44 [.pv (.sl 1 (l.map zr))] (fun r => r = .pv (.sl 1 (l.map zr))) := by
 obtain ⟨hl0, hl⟩ := hl
 rcases l with _ | ⟨x, l⟩
 · exact absurd hl0 (by simp)
 refine zh tok mixed 8 rfl (fn := Tryz.f44) (c := Tryz.f44.body.getD .skip) (by kernel_rfl) (by kernel_rfl) (by kernel_rfl) rfl 0 rfl ?_
 repeat' (first | ((show zb _ * _ ≤ _; simp [zb] at *; omega)) | ((show zb _ ≤ _; simp [zb] at *; omega)) | (refine zi (Rows.p ((x :: l).map zr)) rfl (zi (x :: l).length (by simp [zb]) ?_)) | refine o1 ?_ | refine o2 ?_ | refine k1 ?_ | refine k2 ?_ | refine k3 ?_ | refine k6 ?_ | refine k7 ?_ | refine And.intro ?_ ?_ | (intro h; first | exact Bool.noConfusion h | exact nz _ h | exact nl h | (simp at h; done) | (simp at h; first | (exfalso; omega) | skip) | skip) | (refine (?_ : z8 _ = zb _); rfl) | (refine (?_ : _ = zb _); simp [zb] <;> omega) | fail)
 refine zd (r0 := .pv (.sl 1 (((x :: l).map zr).drop 0 |>.take (x :: l).length))) rfl ?_ ?_
 · show 0 + _ ≤ List.length _
   rw [List.length_map, Nat.zero_add]; exact Nat.le_refl _
 · rw [List.drop_zero, List.take_of_length_le (by rw [List.length_map]; exact Nat.le_refl _)]
theorem zpP (l : List Int) (hl : l.length ≤ 100000) : zH Tryz.prog 44 [.pv (.sl 1 (l.map zr))] (fun r => r = .pv (.sl 1 (l.map zr))) := by
 rcases l with _ | ⟨x, l⟩
 · exact zkA 0
 · exact zpQ (x :: l) ⟨by simp, hl⟩
end Go.Proofs.YtihpjcmloecaaaaGreat.Cw
namespace Go.Proofs.YtihpjcmloecaaaaGreat.Cw
open Go Go.Cw Go.Proofs
set_option linter.unusedVariables false
set_option maxRecDepth 100000
set_option maxHeartbeats 30000000
theorem xw {k m id z : Nat} {rows : List (List AV)} (h : id < k ∨ k + m ≤ id) : far k m (slC id z rows) = true := by
 cases rows with
 | nil => rfl
 | cons a l => simp [slC, far]; exact h
theorem zac {k m i ty z : Nat} {rows : List (List AV)} {Y : zt} (hi : i < k ∨ k + m ≤ i) (h : ∀ r ∈ rows, zab k m r = true) (hy : zcl k m (i + 1) Y) : zcl k m i (obM ty z rows :: Y) := by
 cases rows with
 | nil => exact hy
 | cons a l => exact ⟨hi, h, hy⟩
theorem zf3 {k m i ty z : Nat} {rows : List (List PV)} {Y : zt} (hi : i < k ∨ k + m ≤ i) (hy : zcl k m (i + 1) Y) : zcl k m i (obP ty z rows :: Y) := by
 cases rows with
 | nil => exact hy
 | cons a l => exact ⟨hi, True.intro, hy⟩
def shF (F : Nat) : Nat → Nat := fun q => q + F
section
variable {H Hc Y : zt} {d F n i ty z s id : Nat} {rn fx l : List Nat} {rows rows' : List (List AV)} {x x' y' z' : AV} {r : Int} {A : List (List Opt)} {lo : List Opt} {Γ : zw}
theorem xt (h : H[i]? = some (obM ty z rows')) (hr : rows.map (zae d rn) = rows') (hk : zaz H d rn l Hc) : zaz H d rn (i :: l) (obM ty z rows :: Hc) := by
 subst hr
 cases rows with
 | nil => exact hk
 | cons a b => exact ⟨h, hk⟩
theorem zl0 (h : Cw.get Γ s = some (slC (rn.getD id d) z rows')) (hr : rows.map (zae d rn) = rows') : Cw.get Γ s = some (xP d rn (slC id z rows)) := by
 rw [xU, hr]; exact h
theorem zfy (hF : fx.length = F) (hY : Y.length = n) (hid : Y.map (qE d (fx ++ List.range' F n)) = Y) (hH : ∀ (q : Nat) (o : AObj), Y[q]? = some (some o) → H[q + F]? = some (some o)) : zaz H d (fx ++ List.range' F n) (List.range' F n) Y :=
 zdG (by rw [List.length_range', hY]) fun q i hq o ho => by
  rw [hid] at ho
  have hq2 : q < n := by rw [← hY]; exact (List.getElem?_eq_some_iff.1 ho).1
  rw [List.getElem?_range' hq2, Nat.one_mul] at hq
  injection hq with hq
  rw [← hq, Nat.add_comm]
  exact hH q o ho
theorem zoU {P : Program} {T : Tab} {n nh : Nat} {a b : Code} {Q : Exit → zw → zt → Prop} {Γ : zw} {H : zt} (G : zw) (Hp : zt) (h : zU P T n nh a (zdN (fun Γ' H' => zD n nh Γ' H' G Hp) Q) Γ H) (k : zU P T n nh b Q G Hp) : zU P T n nh (.seq a b) Q Γ H := by
 refine zkl (fun S => S = ⟨G, Hp⟩) ?_ (fun S hS => by subst hS; exact k)
 have : (fun Γ' H' => ∃ S : ASt, S = ⟨G, Hp⟩ ∧ zD n nh Γ' H' S.sl S.hp) = fun Γ' H' => zD n nh Γ' H' G Hp := by
  funext Γ' H'
  exact propext ⟨fun ⟨S, h1, h2⟩ => by subst h1; exact h2, fun h => ⟨_, rfl, h⟩⟩
 rw [this]
 exact h
theorem zfP (hF : fx.length = F) (h : nT A ≤ n) : (zZ (shF F) 0 A).map (qE d (fx ++ List.range' F n)) = zZ (shF F) 0 A := by
 rw [zap]
 exact xD fun q _ h2 => zk6 hF (by omega)
theorem zef (hF : fx.length = F) (h : nT A ≤ n) : (qy (shF F) 0 A).map (zae d (fx ++ List.range' F n)) = qy (shF F) 0 A := by
 rw [zaK]
 exact xG fun q _ h2 => zk6 hF (by omega)
theorem zl6 {j : Nat} (hF : fx.length = F) (h : j + lo.length ≤ n) : (qa (shF F) j lo).map (zae d (fx ++ List.range' F n)) = qa (shF F) j lo := by
 rw [zaO]
 exact xi fun q _ h2 => zk6 hF (by omega)
end
theorem zdH {Γ : zw} : ∀ s x, Cw.get [] s = some x → Cw.get Γ s = some x := fun s x h => by cases h
theorem zci {Γ G : zw} {k : Nat} {v : AV} (h1 : Cw.get Γ k = some v) (h2 : ∀ s x, Cw.get G s = some x → Cw.get Γ s = some x) : ∀ s x, Cw.get ((k, v) :: G) s = some x → Cw.get Γ s = some x := fun s x h => by
 unfold Go.Cw.get at h
 cases hk : Nat.beq k s
 · rw [hk] at h; exact h2 s x h
 · rw [hk] at h
   obtain rfl := Nat.eq_of_beq_eq_true hk
   rw [h1]; exact h
theorem zco {n nh : Nat} {Γ G : zw} {H : zt} (h : ∀ s x, Cw.get G s = some x → Cw.get Γ s = some x) : zD n nh Γ H G H := zD.keep h
theorem zbR {p : Prop} (h : Later p) : p := h.go
theorem zdd {d : Nat} {rn : List Nat} {Γ : zw} : ∀ {a b : zw}, q7 d rn Γ a → q7 d rn Γ b → q7 d rn Γ (a ++ b)
 | [], _, _, h => h
 | (_, _) :: _, _, h1, h2 => ⟨h1.1, zdd h1.2 h2⟩
theorem zgw {F n x t d : Nat} {fx : List Nat} (hF : fx.length = F) (ht : t ≤ n) : (fx ++ (List.range' F n ++ [x])).getD (t + F) d = if t = n then x else t + F := by
 rw [List.getD_eq_getElem?_getD, List.getElem?_append_right (by omega), hF, Nat.add_sub_cancel]
 by_cases e : t = n
 · subst e
   rw [if_pos rfl, List.getElem?_append_right (by rw [List.length_range']; exact Nat.le_refl _), List.length_range', Nat.sub_self]
   rfl
 · rw [if_neg e, List.getElem?_append_left (by rw [List.length_range']; omega), List.getElem?_range' (by omega), Nat.one_mul]
   show F + t = t + F
   omega
theorem ziD {F n x : Nat} {fx : List Nat} (h : zfF (fx ++ [x]) = true) (hx : ∀ a ∈ fx ++ [x], a < F ∨ a = F + n) : zfF (fx ++ (List.range' F n ++ [x])) = true := by
 apply zcO
 have hn := zez h
 rw [List.nodup_append] at hn ⊢
 refine ⟨hn.1, ?_, fun a ha b hb e => ?_⟩
 · rw [List.nodup_append]
   refine ⟨List.nodup_range', by simp, fun a ha b hb e => ?_⟩
   rw [List.mem_range'_1] at ha
   have := hx b (List.mem_append_right _ hb); omega
 · subst e
   rcases List.mem_append.1 hb with hb | hb
   · rw [List.mem_range'_1] at hb
     have := hx a (List.mem_append_left _ ha); omega
   · exact hn.2.2 a ha a hb rfl
theorem zpu {P : Program} {f : FuncId} {as0 : List AV} {x : AV} (h : zH P f as0 (fun r => r = x)) : qf P f as0 [] (fun r H' => r = x ∧ H' = [none]) := by
 refine ⟨h.1, fun I β w vs hH hs ha => (h.2 I β w vs hH hs ha).mono ?_⟩
 rintro e w' ⟨r, H', I', β', v, he, ⟨rfl, rfl⟩, h1, h2, h3⟩
 obtain rfl : β = [] := List.eq_nil_of_length_eq_zero hH.len
 obtain rfl : β' = [] := List.eq_nil_of_length_eq_zero h1.len
 have no : ∀ (i : Nat) (b : Nat × Nat), ¬ ([none] : xf)[i]? = some (some b) := fun i b hb => by
  cases i with
  | zero => cases hb
  | succ i => simp at hb
 have noO : ∀ (i : Nat) (o : AObj), ¬ ([none] : zt)[i]? = some (some o) := fun i b hb => by
  cases i with
  | zero => cases hb
  | succ i => simp at hb
 refine ⟨_, [none], I', [none], v, he, ⟨rfl, rfl⟩, ⟨rfl, fun i o ho => absurd ho (noO i o), fun i j oi oj b b' hi => absurd hi (noO i oi), h1.imm, fun i b hb => absurd hb (no i b)⟩, h2.mono (fun b hb => ⟨rfl, hb⟩) (fun i b hb => by simp at hb) (fun _ _ _ hs => hs), ?_⟩
 exact ⟨h3.os, h3.tape, h3.output, h3.size, fun i b hb => by simp at hb, fun i b hb => absurd hb (no i b), h3.keep, h3.keepI, h3.old, h3.shape, h3.drawn⟩
theorem c_cloneQ (l : List Charge) (hl : l.length ≤ 100000) : qf Tryz.prog 95 [.pv (.sl 2 (l.map Charge.row))] [] (fun r H' => r = chC 0 l ∧ H' = [chO l]) := by
 cases l with
 | nil => exact zpu (zpR ⟨0, 0⟩)
 | cons c t => exact zm6 (c :: t) ⟨by simp, hl⟩
theorem zig {H : zt} {P : Program} {f : FuncId} {args : List AV} {K : AV → zt → Prop} {N : Nat} {l : List Charge} (as0 : List AV) (hN : H.length = N) (ha : args = zae H.length [] as0) (hc : qf P f as0 [] (fun r H' => r = chC 0 l ∧ H' = [chO l])) (hK : K (chC N l) (H ++ [chO l])) : zp P f args H K := by
 refine zaL [] [] as0 rfl trivial ha hc fun r Hc' hp => ?_
 obtain ⟨rfl, rfl⟩ := hp
 subst hN
 refine ⟨Nat.zero_le _, ?_⟩
 have e : xP 0 (zbx H.length ([chO l].length - 0)) (chC 0 l) = chC H.length l := by rw [zpq]; rfl
 have e2 : zbP 0 (zbx H.length ([chO l].length - 0)) [] [chO l] H = H ++ [chO l] := by
  simp only [zbP, List.map_cons, List.map_nil, zg8]
 simp only [List.length_nil, List.nil_append] at *
 rw [e, e2]; exact hK
def zdX (m : Model) : Option AObj := some ⟨29, 4, false, .box (pvs m.cells)⟩
def zfj : Option AObj := some ⟨29, 4, false, .box [qr, qr, qr, .pv (ei 0)]⟩
def zdx (x y z : AV) (r : Int) : Option AObj := some ⟨29, 4, false, .box [x, y, z, .pv (ei r)]⟩
def hpO (m : Model) (A : List (List Opt)) (x : Option AObj) : zt := zdX m :: zfj :: zdx (slC 3 1 (qy (shF 8) 0 A)) qr qr m.rules :: obM 51 1 (qy (shF 8) 0 A) :: x :: none :: none :: none :: zZ (shF 8) 0 A
theorem qR {H Hc : zt} {d i : Nat} {rn l : List Nat} {x x' y z y' z' : AV} {r : Int} (h : H[i]? = some (zdx x' y' z' r)) (hx : xP d rn x = x') (hy : xP d rn y = y') (hz : xP d rn z = z') (hk : zaz H d rn l Hc) : zaz H d rn (i :: l) (zdx x y z r :: Hc) := by
 subst hx; subst hy; subst hz
 exact ⟨h, hk⟩
theorem zkE {n i : Nat} {m : Model} {A : List (List Opt)} {l : List Opt} {o : Opt} {R RO : List (List AV)} {TT Tl : zt} {c : AV} {x5 x6 : Option AObj} {Γ' G0 : zw} (hR : qy (shF 8) 0 A = R) (ho : l[i]? = some o)
  (hRO : qa (shF 8) (nT A) (l.take i) = RO) (hTT : zZ (shF 8) 0 A ++ zam (l.take i) = TT) (hc : c = chC (TT.length + 8) o.charges) (hTl : ∀ (q : Nat) (x : AObj), (TT ++ [chO o.charges])[q]? = some (some x) → Tl[q]? = some (some x))
  (h6 : Cw.get Γ' 6 = some (.ms 7 6 0 (RO.length + 1))) (hG : ∀ d rest, q7 d (0 :: 1 :: 2 :: 3 :: 7 :: 5 :: 6 :: 4 :: rest) Γ' G0) :
  zD n 0 Γ' (zdX m :: zfj :: zdx (slC 3 1 R) qr qr m.rules :: obM 51 1 R :: none :: x5 :: x6 :: some ⟨62, 6, false, .m (RO ++ [zdU c o.place])⟩ :: Tl)
   (G0 ++ [(6, slC 4 6 (qa (shF 8) (nT A) (l.take (i + 1))))]) (zdX m :: zfj :: zdx (slC 3 1 R) qr qr m.rules :: obM 51 1 R :: obM 62 6 (qa (shF 8) (nT A) (l.take (i + 1))) :: none :: none :: none :: (zZ (shF 8) 0 A ++ zam (l.take (i + 1)))) := by
 have hi := (List.getElem?_eq_some_iff.1 ho).1
 have hto : l.take (i + 1) = l.take i ++ [o] := by
  rw [List.take_add_one, ho]; rfl
 have hlt : (l.take i).length = i := by rw [List.length_take]; omega
 have hTTl : TT.length = nT A + i := by rw [← hTT, List.length_append, qm, qA, hlt]
 have hro : qa (shF 8) (nT A) (l.take (i + 1)) = RO ++ [zdU c o.place] := by
  rw [hto, zgt, hRO, hlt, hc, hTTl]
  simp only [qa, shF]
 have hch : zam (l.take (i + 1)) = zam (l.take i) ++ [chO o.charges] := by
  rw [hto]; simp [zam]
 have hY : zZ (shF 8) 0 A ++ zam (l.take (i + 1)) = TT ++ [chO o.charges] := by rw [hch, ← List.append_assoc, hTT]
 refine zJ ([0, 1, 2, 3, 7, 5, 6, 4] ++ List.range' 8 (nT A + i + 1)) (zbb rfl (by decide)) rfl ?_ ?_
 · show zaz _ _ _ (0 :: 1 :: 2 :: 3 :: 7 :: 5 :: 6 :: 4 :: List.range' 8 (nT A + i + 1)) _
   have hid := zl6 (d := (zdX m :: zfj :: zdx (slC 3 1 R) qr qr m.rules :: obM 51 1 R :: none :: x5 :: x6 :: some ⟨62, 6, false, .m (RO ++ [zdU c o.place])⟩ :: Tl).length) (F := 8) (fx := [0, 1, 2, 3, 7, 5, 6, 4]) (n := nT A + i + 1) (lo := l.take (i + 1)) (j := nT A) (by rfl) (by rw [List.length_take]; omega)
   refine ⟨rfl, rfl, qR rfl ?_ rfl rfl (xt rfl ?_ (xt (rows' := RO ++ [zdU c o.place]) ?_ ?_ (zfy rfl ?_ ?_ ?_)))⟩
   · rw [xU, ← hR, zef (F := 8) (by rfl) (by omega)]; rfl
   · rw [← hR, zef (F := 8) (by rfl) (by omega)]
   · rw [ziJ]; rfl
   · rw [hid, hro]
   · rw [hY, List.length_append, hTTl]; rfl
   · rw [hch, ← List.append_assoc, List.map_append, List.map_append, zfP (F := 8) (by rfl) (by omega), zbg]
     simp only [List.map_cons, List.map_nil, zg8]
   · intro q x hx
     rw [hY] at hx
     exact hTl q x hx
 · exact zdd (hG _ _) ⟨zl0 (rows' := RO ++ [zdU c o.place]) (h6.trans (by rw [ziy]; rfl)) (by rw [zl6 (F := 8) (fx := [0, 1, 2, 3, 7, 5, 6, 4]) (by rfl) (by rw [List.length_take]; omega), hro]), True.intro⟩
end Go.Proofs.YtihpjcmloecaaaaGreat.Cw
namespace Go.Proofs.YtihpjcmloecaaaaGreat.Cw
open Go Go.Cw Go.Proofs
set_option linter.unusedVariables false
set_option maxRecDepth 100000
set_option maxHeartbeats 8000000
noncomputable def imN (l : List Opt) (a b : Int) (i : Nat) : Nat := (zc3 l a b i).getD 0
theorem zdh {l : List Opt} {a b : Int} {i : Nat} (h : okO l a b i) : zc3 l a b i = some (imN l a b i) ∧ imN l a b i < l.length := by
 obtain ⟨j, o, q, h1, h2, h3, -⟩ := h
 have : imN l a b i = j := by unfold imN; rw [h1]; rfl
 rw [this]
 exact ⟨h1, (List.getElem?_eq_some_iff.1 h3).1⟩
theorem ziZ {l : List Opt} {a b : Int} (h : zcX l a b) : ∀ {n : Nat}, n ≤ l.length → xC l a b n = (List.range n).map (imN l a b)
 | 0, _ => rfl
 | n + 1, hn => by
   rw [zaV (zdh (h n (by omega))).1, ziZ h (by omega), List.range_succ, List.map_append]; rfl
theorem zff {l : List Opt} {a b : Int} (h : zcX l a b) {i : Nat} (hi : i < l.length) : (xC l a b l.length)[i]? = some (imN l a b i) := by
 rw [ziZ h (Nat.le_refl _), List.getElem?_map, List.getElem?_range hi]; rfl
theorem zcj {l : List Opt} {a b : Int} (h : zcX l a b) : (xC l a b l.length).length = l.length := by
 rw [ziZ h (Nat.le_refl _), List.length_map, List.length_range]
def zdy (m : Model) (a b : Int) : Prop := ∀ l ∈ m.classes, zcX l a b
def zi9 (m : Model) (a b : Int) (p : Pair) : Prop := ∀ (x y : List Opt), m.classes[p.first.toNat]? = some x → m.classes[p.second.toNat]? = some y → ∀ i, i < x.length → ∀ k, k < y.length → zh9 m p i k = zh9 m p (imN x a b i) (imN y a b k)
noncomputable def zO (m : Model) (a b : Int) (l : Load) : Int := match m.classes[l.cls.toNat]? with
 | some x => imN x a b l.opt.toNat
 | none => 0
def zg5 (m : Model) (a b : Int) : Prop := xH Load.opt m.counts = xH (zO m a b) m.counts
def zbz (m : Model) (a b : Int) : Prop := zdy m a b ∧ (∀ p ∈ m.pairs, zi9 m a b p) ∧ zg5 m a b
noncomputable def xk (m : Model) (a b : Int) : List (List Nat) := m.classes.map fun l => xC l a b l.length
noncomputable def zkZ (m : Model) (a b : Int) : List (List Nat) := if pB (zbz m a b) then xk m a b else []
theorem zoK {m : Model} {a b : Int} (h : ¬ zbz m a b) : Leq (.tup [.pv (.val (.slice none 0 0)), .pv (.val (.bool false))]) (.tup [.pv (.sl 1 ((zkZ m a b).map qg)), zo (pB (zbz m a b))]) := by
 unfold zkZ
 rw [if_neg (by rw [zaj h]; simp), zaj h]
 exact ⟨ALe.tup ⟨ALe.pv PLe.nil, ALe.refl, trivial⟩⟩
theorem zck {m : Model} (hg : zdQ m) {c : Count} (hc : c ∈ m.counts) {l : Load} (hl : l ∈ c.loads) : xV m l.cls l.opt ∧ 1 ≤ l.weight := by
 obtain ⟨i, hi⟩ := List.getElem?_of_mem hl
 have := (hg.2.2 c hc).2.2.2.2 i (List.getElem?_eq_some_iff.1 hi).1 l hi
 exact ⟨this.1, this.2.1⟩
theorem zii {m : Model} {a b : Int} {k : Nat} {l : List Opt} (h : m.classes[k]? = some l) : (xk m a b)[k]? = some (xC l a b l.length) := by
 unfold xk; rw [List.getElem?_map, h]; rfl
theorem znd {m : Model} {a b : Int} {i : Nat} {l : List Opt} (h : m.classes[i]? = some l) : ((m.classes.take (i + 1)).map fun l => xC l a b l.length) = ((m.classes.take i).map fun l => xC l a b l.length) ++ [xC l a b l.length] := by
 rw [xS h, List.map_append]; rfl
theorem zic {m : Model} {o : Opt} (h : xI m o) : ∀ {i : Nat} {c : Charge}, o.charges[i]? = some c → (i : Int) ≤ c.rule ∧ c.rule < m.rules
 | 0, c, hc => by
   have := h 0 (List.getElem?_eq_some_iff.1 hc).1 c hc
   exact ⟨this.1.1, this.1.2⟩
 | i + 1, c, hc => by
   have hi := (List.getElem?_eq_some_iff.1 hc).1
   obtain ⟨b, hb⟩ := qj (show i < o.charges.length by omega)
   have ih := zic h hb
   have := h (i + 1) hi c hc
   have h2 := this.2.2 i b rfl hb
   exact ⟨by omega, this.1.2⟩
theorem zaE {m : Model} {o : Opt} (h : xI m o) (hr : m.rules ≤ 56) : o.charges.length ≤ 56 := by
 rcases Nat.eq_zero_or_pos o.charges.length with h0 | h0
 · omega
 · obtain ⟨c, hc⟩ := qj (show o.charges.length - 1 < o.charges.length by omega)
   have := zic h hc
   omega
theorem zfZ {m : Model} {c : Count} (hz : ∀ l ∈ m.classes, l.length ≤ 24) (h : ∀ i, i < c.loads.length → loadAt m c.loads i) : ∀ {i : Nat} {x : Load}, c.loads[i]? = some x → (i : Int) ≤ x.cls * 24 + x.opt ∧ 0 ≤ x.cls ∧ x.cls < m.classes.length ∧ 0 ≤ x.opt ∧ x.opt < 24
 | i, x, hx => by
   have hi := (List.getElem?_eq_some_iff.1 hx).1
   have hh := h i hi x hx
   obtain ⟨h1, h2, l, h3, h4⟩ := hh.1
   have h5 := hz l (List.mem_of_getElem? h3)
   have h6 := (List.getElem?_eq_some_iff.1 h3).1
   cases i with
   | zero => omega
   | succ i =>
     obtain ⟨y, hy⟩ := qj (show i < c.loads.length by omega)
     have ih := zfZ hz h hy
     have h7 := hh.2.2.2 i y rfl hy
     omega
theorem zeB {m : Model} {c : Count} (hz : qJ m) (h : ∀ i, i < c.loads.length → loadAt m c.loads i) : c.loads.length ≤ 576 := by
 rcases Nat.eq_zero_or_pos c.loads.length with h0 | h0
 · omega
 · obtain ⟨x, hx⟩ := qj (show c.loads.length - 1 < c.loads.length by omega)
   have := zfZ hz.2.1 h hx
   have h1 := hz.1
   omega
theorem c_swap2m {m : Model} {a b : Int} (ha : zdy m a b) {x : Load} (hx : xV m x.cls x.opt) : zH Tryz.prog 85 [ag x.row, .pv (.ia [.sl 1 ((xk m a b).map qg)])] (fun r => r = zg .i64 (zO m a b x)) := by
 obtain ⟨h1, h2, l, h3, h4⟩ := hx
 have e : zO m a b x = (imN l a b x.opt.toNat : Int) := by unfold zO; rw [h3]
 rw [e]
 exact c_swap2 _ x _ _ h1 h2 (zii h3) (zff (ha l (List.mem_of_getElem? h3)) (by omega))
theorem c_swapM0 (m : Model) (a b : Int) (hz : qJ m) (hg : zdQ m) : zH Tryz.prog 35 [ag m.cells, zg .i64 a, zg .i64 b] (fun r => Leq r (.tup [.pv (.sl 1 ((zkZ m a b).map qg)), zo (pB (zbz m a b))])) := by
 have hld : ∀ c ∈ m.counts, c.loads.length ≤ 576 := fun c hc => zeB hz (hg.2.2 c hc).2.2.2.2
 obtain ⟨z1, z2, z3, z4, z5⟩ := hz
 refine zh tok mixed 95 rfl (fn := Tryz.f35) (c := Tryz.f35.body.getD .skip) (by kernel_rfl) (by kernel_rfl) (by kernel_rfl) rfl 0 rfl ?_
 repeat' (first | refine o1 ?_ | refine o2 ?_ | refine k1 ?_ | refine k2 ?_ | refine k4 ?_ | refine And.intro ?_ ?_ | exact (by kernel_rfl : zn _ _ = true) | refine za ?_ | fail)
 refine zB (fun i : Nat => [(1, zg .i64 a), (2, zg .i64 b), (3, .ptr 0 4 0 0), (8, .ptr 1 1 0 0), (22, .pv (.sl 1 (m.classes.map zA))), (23, zg .i64 m.classes.length), (24, zg .i64 i)])
  (fun i => [some ⟨29, 4, false, .box (pvs m.cells)⟩, some ⟨35, 1, false, .box [slP 2 1 (((m.classes.take i).map fun l => xC l a b l.length).map qg)]⟩, obP 22 1 (((m.classes.take i).map fun l => xC l a b l.length).map qg)])
  (fun i => i ≤ m.classes.length ∧ ∀ j, j < i → ∀ l, m.classes[j]? = some l → zcX l a b) (fun i => m.classes.length - i) 0 ⟨Nat.zero_le _, fun j hj => by omega⟩ ?_ ?_
 · exact zJ [0, 1, 2] rfl rfl (by repeat' (first | exact trivial | exact rfl | refine And.intro ?_ ?_)) (by repeat' (first | exact trivial | exact rfl | refine And.intro ?_ ?_))
 intro i ⟨hi, hall⟩
 rcases Nat.lt_or_ge i m.classes.length with hlt | hge
 · obtain ⟨l, hl⟩ := qj hlt
   have hlm := List.mem_of_getElem? hl
   have him := c_images l a b (by have := z2 l hlm; omega) (fun o ho => by have := zaE (hg.1 l hlm o ho) z5.2; omega)
   have htl : ((m.classes.take i).map fun l => xC l a b l.length).length ≤ 24 := by rw [List.length_map]; exact Nat.le_trans (List.length_take_le' ..) z1
   by_cases hp : zcX l a b
   · have hV : zlp l a b = xC l a b l.length := by unfold zlp; rw [if_pos (zaS hp)]
     have hnx := znd (a := a) (b := b) hl
     rw [zaS hp, hV] at him
     generalize hRS : ((m.classes.take i).map fun l => xC l a b l.length) = RS at *
     repeat' (first | (refine xl ?_) | (refine z6 ?_) | (refine zj (k := i) (zf hl) rfl ?_) | ((change zp _ _ _ _ _; refine qw rfl (by repeat' (first | trivial | refine And.intro ?_ ?_ | (show 0 + _ ≤ List.length _; simp))) zW.refl him ?_; rintro _ rfl)) | ((refine zbB rfl rfl rfl rfl rfl rfl rfl rfl rfl rfl rfl (by rw [List.length_map]; omega) (by rw [List.length_map]; omega) ?_)) | refine o1 ?_ | refine o2 ?_ | refine k1 ?_ | refine k2 ?_ | refine k3 ?_ | refine k4 ?_ | refine k6 ?_ | refine And.intro ?_ ?_ | (intro h; first | exact Bool.noConfusion h | exact nz _ h | exact nl h | (simp at h; done) | (simp at h; first | (exfalso; omega) | skip) | skip) | refine zc (by omega) (by omega) ?_ | fail)
     refine ⟨i + 1, ⟨by omega, zz hall fun l' h' => by rw [hl] at h'; cases h'; exact hp⟩, by omega, ?_⟩
     rw [hnx, zM, qn, qo]
     exact zJ [0, 1, 4] rfl rfl (by repeat' (first | exact trivial | exact rfl | refine And.intro ?_ ?_)) (by repeat' (first | exact trivial | exact rfl | refine And.intro ?_ ?_))
   · rw [zaj hp] at him
     have hno := zoK (m := m) (a := a) (b := b) fun k => hp (k.1 l hlm)
     repeat' (first | (refine z6 ?_) | (refine zj (k := i) (zf hl) rfl ?_) | ((change zp _ _ _ _ _; refine qw rfl (by repeat' (first | trivial | refine And.intro ?_ ?_ | (show 0 + _ ≤ List.length _; simp))) zW.refl him ?_; rintro _ rfl)) | refine o1 ?_ | refine o2 ?_ | refine k1 ?_ | refine k2 ?_ | refine k3 ?_ | refine k4 ?_ | refine k6 ?_ | refine k7 ?_ | refine And.intro ?_ ?_ | (intro h; first | exact Bool.noConfusion h | exact nz _ h | exact nl h | (simp at h; done) | (simp at h; first | (exfalso; omega) | skip) | skip) | (change zx _ _ _ _; refine zd rfl trivial ?_) | fail)
     exact hno
 · obtain rfl : i = m.classes.length := by omega
   rw [List.take_length]
   have hal : zdy m a b := fun l hl => by
    obtain ⟨j, hj⟩ := List.getElem?_of_mem hl
    exact hall j (List.getElem?_eq_some_iff.1 hj).1 l hj
   refine zq ?_
   change zU _ _ _ _ _ _ _ [_, some ⟨_, _, _, .box [slP 2 1 ((xk m a b).map qg)]⟩, obP _ 1 ((xk m a b).map qg)]
   refine qh (Γ' := [(1, zg .i64 a), (2, zg .i64 b), (3, .ptr 0 4 0 0), (8, .ptr 1 1 0 0), (23, zg .i64 m.classes.length), (24, zg .i64 m.classes.length)]) (H' := [some ⟨29, 4, false, .box (pvs m.cells)⟩, some ⟨35, 1, false, .box [.pv (.sl 1 ((xk m a b).map qg))]⟩]) (zD.shut_sl (i := 1) (c := 0) (id := 2) rfl rfl rfl (by decide) fun H' hl h2 hH => zJ [0, 1] rfl rfl (And.intro (hH 0 (by decide) (by decide)) (And.intro h2 trivial)) (by repeat' (first | exact trivial | exact rfl | refine And.intro ?_ ?_))) ?_
   repeat' (first | refine o1 ?_ | refine o2 ?_ | refine k1 ?_ | refine k2 ?_ | refine k3 ?_ | refine k4 ?_ | refine k8 ?_ | refine And.intro ?_ ?_ | (intro h; first | exact Bool.noConfusion h | exact nz _ h | exact nl h | (simp at h; done) | (simp at h; first | (exfalso; omega) | skip) | skip) | refine za ?_ | fail)
   refine zB (fun i : Nat => [(3, .ptr 0 4 0 0), (8, .ptr 1 1 0 0), (43, .pv (.sl 4 (m.pairs.map Pair.row))), (44, zg .i64 m.pairs.length), (45, zg .i64 i)])
    (fun i => [some ⟨29, 4, false, .box (pvs m.cells)⟩, some ⟨35, 1, false, .box [.pv (.sl 1 ((xk m a b).map qg))]⟩])
    (fun i => i ≤ m.pairs.length ∧ ∀ j, j < i → ∀ p, m.pairs[j]? = some p → zi9 m a b p) (fun i => m.pairs.length - i) 0 ⟨Nat.zero_le _, fun j hj => by omega⟩ (zJ [0, 1] rfl rfl (by repeat' (first | exact trivial | exact rfl | refine And.intro ?_ ?_)) (by repeat' (first | exact trivial | exact rfl | refine And.intro ?_ ?_))) ?_
   intro i ⟨hi, hpa⟩
   rcases Nat.lt_or_ge i m.pairs.length with hlt | hge2
   · obtain ⟨p, hp⟩ := qj hlt
     have hpp := (hg.2.1 i hlt p hp).1
     obtain ⟨q1, q2, q3, ⟨x, y, hx, hy, q4⟩, q5⟩ := id hpp
     have hxa := hal x (List.mem_of_getElem? hx)
     have hya := hal y (List.mem_of_getElem? hy)
     have hxl := z2 x (List.mem_of_getElem? hx)
     have hyl := z2 y (List.mem_of_getElem? hy)
     have hxw := zcj hxa
     have hyw := zcj hya
     have hax := zii (a := a) (b := b) hx
     have hay := zii (a := a) (b := b) hy
     have hix := fun i hi => zff hxa (i := i) hi
     have hiy := fun i hi => zff hya (i := i) hi
     generalize xC x a b x.length = IX at hxw hax hix
     generalize xC y a b y.length = IY at hyw hay hiy
     obtain ⟨p1, p2, p3, p4⟩ := p
     dsimp only at q2 q3 hx hy hax hay
     have hk1 : p1 = (p1.toNat : Int) := by omega
     have hk2 : p2 = (p2.toNat : Int) := by omega
     repeat' (first | (refine zj (k := i) (zf hp) rfl ?_) | (refine zj (k := p1.toNat) (zf hax) hk1 ?_) | refine o1 ?_ | refine o2 ?_ | refine k1 ?_ | refine k2 ?_ | refine k3 ?_ | refine k4 ?_ | refine k6 ?_ | refine And.intro ?_ ?_ | (intro h; first | exact Bool.noConfusion h | exact nz _ h | exact nl h | (simp at h; done) | (simp at h; first | (exfalso; omega) | skip) | skip) | exact (by kernel_rfl : zn _ _ = true) | refine za ?_ | fail)
     refine zB (fun u : Nat => [(3, .ptr 0 4 0 0), (8, .ptr 1 1 0 0), (43, .pv (.sl 4 (m.pairs.map Pair.row))), (44, zg .i64 m.pairs.length), (45, zg .i64 i), (14, .ptr 2 4 0 0), (53, .pv (.sl 1 (IX.map qG))), (54, zg .i64 IX.length), (55, zg .i64 u)])
      (fun u => [some ⟨29, 4, false, .box (pvs m.cells)⟩, some ⟨35, 1, false, .box [.pv (.sl 1 ((xk m a b).map qg))]⟩, some ⟨72, 4, false, .box (pvs (Pair.row ⟨p1, p2, p3, p4⟩))⟩])
      (fun u => u ≤ x.length ∧ ∀ j, j < u → ∀ k, k < y.length → zh9 m ⟨p1, p2, p3, p4⟩ j k = zh9 m ⟨p1, p2, p3, p4⟩ (imN x a b j) (imN y a b k)) (fun u => x.length - u) 0 ⟨Nat.zero_le _, fun j hj => by omega⟩ (zJ [0, 1, 2] rfl rfl (by repeat' (first | exact trivial | exact rfl | refine And.intro ?_ ?_)) (by repeat' (first | exact trivial | exact rfl | refine And.intro ?_ ?_))) ?_
     intro u ⟨hu, hua⟩
     rcases Nat.lt_or_ge u x.length with hul | hug
     · repeat' (first | (refine zj (k := u) (zf (hix u hul)) rfl ?_) | (refine zj (k := p2.toNat) (zf hay) hk2 ?_) | refine o1 ?_ | refine o2 ?_ | refine k1 ?_ | refine k2 ?_ | refine k3 ?_ | refine k4 ?_ | refine k6 ?_ | refine And.intro ?_ ?_ | (intro h; first | exact Bool.noConfusion h | exact nz _ h | exact nl h | (simp at h; done) | (simp at h; first | (exfalso; omega) | skip) | skip) | refine za ?_ | fail)
       refine zB (fun k : Nat => [(3, .ptr 0 4 0 0), (8, .ptr 1 1 0 0), (43, .pv (.sl 4 (m.pairs.map Pair.row))), (44, zg .i64 m.pairs.length), (45, zg .i64 i), (14, .ptr 2 4 0 0), (53, .pv (.sl 1 (IX.map qG))), (54, zg .i64 IX.length), (55, zg .i64 u), (15, zg .i64 u), (16, zg .i64 (imN x a b u)), (64, .pv (.sl 1 (IY.map qG))), (65, zg .i64 IY.length), (66, zg .i64 k)])
        (fun k => [some ⟨29, 4, false, .box (pvs m.cells)⟩, some ⟨35, 1, false, .box [.pv (.sl 1 ((xk m a b).map qg))]⟩, some ⟨72, 4, false, .box (pvs (Pair.row ⟨p1, p2, p3, p4⟩))⟩])
        (fun k => k ≤ y.length ∧ ∀ j, j < k → zh9 m ⟨p1, p2, p3, p4⟩ u j = zh9 m ⟨p1, p2, p3, p4⟩ (imN x a b u) (imN y a b j)) (fun k => y.length - k) 0 ⟨Nat.zero_le _, fun j hj => by omega⟩ (zJ [0, 1, 2] rfl rfl (by repeat' (first | exact trivial | exact rfl | refine And.intro ?_ ?_)) (by repeat' (first | exact trivial | exact rfl | refine And.intro ?_ ?_))) ?_
       intro k ⟨hk, hka⟩
       rcases Nat.lt_or_ge k y.length with hkl | hkg
       · obtain ⟨-, hju⟩ := zdh (hxa u hul)
         obtain ⟨-, hjk⟩ := zdh (hya k hkl)
         have hE1 := zmY m ⟨p1, p2, p3, p4⟩ u k y _ (by show 0 ≤ p2; omega) hy (by omega) (by omega) (by omega) (zi8 hx hy hpp hul hkl)
         have hE2 := zmY m ⟨p1, p2, p3, p4⟩ (imN x a b u) (imN y a b k) y _ (by show 0 ≤ p2; omega) hy (by omega) (by omega) (by omega) (zi8 hx hy hpp hju hjk)
         have hne : ¬ zh9 m ⟨p1, p2, p3, p4⟩ u k = zh9 m ⟨p1, p2, p3, p4⟩ (imN x a b u) (imN y a b k) → ¬ zbz m a b := fun h h2 => h (h2.2.1 _ (List.mem_of_getElem? hp) x y hx hy u hul k hkl)
         generalize hZ1 : zh9 m ⟨p1, p2, p3, p4⟩ u k = Z1 at *
         generalize hZ2 : zh9 m ⟨p1, p2, p3, p4⟩ (imN x a b u) (imN y a b k) = Z2 at *
         generalize hIU : imN x a b u = IU at *
         generalize hIK : imN y a b k = IK at *
         repeat' (first | (refine zj (k := k) (zf ((hiy k hkl).trans (congrArg some hIK))) rfl ?_) | refine o1 ?_ | refine o2 ?_ | refine k1 ?_ | refine k2 ?_ | refine k3 ?_ | refine k4 ?_ | refine k6 ?_ | refine k7 ?_ | refine And.intro ?_ ?_ | refine o3 ?_ | refine o4 ?_ | (intro h; first | exact Bool.noConfusion h | exact nz _ h | exact nl h | (simp at h; done) | (simp at h; first | (exfalso; omega) | skip) | skip) | (change zx _ _ _ _; refine zd rfl trivial ?_) | exact (by kernel_rfl : zn _ _ = true) | refine zc (by omega) (by omega) ?_ | (change zI _ _ _ _ _; refine zF rfl (by repeat' (first | trivial | refine And.intro ?_ ?_ | (show 0 + _ ≤ List.length _; simp))) zW.refl (hE1) rfl ?_) | (change zI _ _ _ _ _; refine zF rfl (by repeat' (first | trivial | refine And.intro ?_ ?_ | (show 0 + _ ≤ List.length _; simp))) zW.refl (hE2) rfl ?_) | fail)
         all_goals first
          | exact zoK (hne (by assumption))
          | exact ⟨k + 1, ⟨by omega, zz hka (by rw [hZ1, hIK, hZ2]; first | assumption | (exact Classical.not_not.1 (by assumption)))⟩, by omega, zJ [0, 1, 2] rfl rfl (by repeat' (first | exact trivial | exact rfl | refine And.intro ?_ ?_)) (by repeat' (first | exact trivial | exact rfl | refine And.intro ?_ ?_))⟩
       · obtain rfl : k = y.length := by omega
         repeat' (first | refine o1 ?_ | refine o2 ?_ | refine k1 ?_ | refine k2 ?_ | refine k3 ?_ | refine k8 ?_ | refine And.intro ?_ ?_ | (intro h; first | exact Bool.noConfusion h | exact nz _ h | exact nl h | (simp at h; done) | (simp at h; first | (exfalso; omega) | skip) | skip) | refine zc (by omega) (by omega) ?_ | fail)
         exact ⟨u + 1, ⟨by omega, zz hua fun j hj => hka j hj⟩, by omega, zJ [0, 1, 2] rfl rfl (by repeat' (first | exact trivial | exact rfl | refine And.intro ?_ ?_)) (by repeat' (first | exact trivial | exact rfl | refine And.intro ?_ ?_))⟩
     · obtain rfl : u = x.length := by omega
       repeat' (first | refine o1 ?_ | refine o2 ?_ | refine k1 ?_ | refine k2 ?_ | refine k3 ?_ | refine k8 ?_ | refine And.intro ?_ ?_ | (intro h; first | exact Bool.noConfusion h | exact nz _ h | exact nl h | (simp at h; done) | (simp at h; first | (exfalso; omega) | skip) | skip) | refine zc (by omega) (by omega) ?_ | fail)
       exact ⟨i + 1, ⟨by omega, zz hpa fun p' h' x' y' hx' hy' j hj k hk => by
        rw [hp] at h'; cases h'
        dsimp only at hx' hy'
        rw [hx] at hx'; cases hx'
        rw [hy] at hy'; cases hy'
        exact hua j hj k hk⟩, by omega, zJ [0, 1] rfl rfl (by repeat' (first | exact trivial | exact rfl | refine And.intro ?_ ?_)) (by repeat' (first | exact trivial | exact rfl | refine And.intro ?_ ?_))⟩
   · obtain rfl : i = m.pairs.length := by omega
     have hb := zm2 m 84 [] Load.opt (by omega) (fun c hc => by have := hld c hc; omega) (fun c hc l hl => c_swap1 l)
     have haf := zm2 m 85 [.ia [.sl 1 ((xk m a b).map qg)]] (zO m a b) (by omega) (fun c hc => by have := hld c hc; omega) (fun c hc l hl => c_swap2m hal (zck hg hc hl).1)
     have hlen : ∀ g, (xH g m.counts).length ≤ 100000 := fun g => by unfold xH; rw [zd3, List.length_map]; omega
     have hll : ∀ g, ∀ c ∈ xH g m.counts, c.loads.length ≤ 100000 := fun g c hc => by
      obtain ⟨d, hd, rfl⟩ := List.mem_map.1 ((zba _).subset hc)
      have := hld d hd
      show (srt ldC (d.loads.map (zcz g))).length ≤ _
      rw [zd3, List.length_map]; omega
     have heq := c_equalC (xH Load.opt m.counts) (xH (zO m a b) m.counts) (hlen _) (hlen _) (hll _) (hll _)
     by_cases hcs : zg5 m a b
     · have hcs' : xH Load.opt m.counts = xH (zO m a b) m.counts := hcs
       rw [zaS hcs'] at heq
       repeat' (first | ((change zp _ _ _ _ _; refine qw rfl (by repeat' (first | trivial | refine And.intro ?_ ?_ | (show 0 + _ ≤ List.length _; simp))) zW.refl hb ?_; rintro _ rfl)) | ((change zp _ _ _ _ _; refine qw rfl (by repeat' (first | trivial | refine And.intro ?_ ?_ | (show 0 + _ ≤ List.length _; simp))) zW.refl haf ?_; rintro _ rfl)) | refine o1 ?_ | refine o2 ?_ | refine k1 ?_ | refine k2 ?_ | refine k3 ?_ | refine k6 ?_ | refine k7 ?_ | refine k8 ?_ | refine And.intro ?_ ?_ | (intro h; first | exact Bool.noConfusion h | exact nz _ h | exact nl h | (simp at h; done) | (simp at h; first | (exfalso; omega) | skip) | skip) | (change zx _ _ _ _; refine zd rfl trivial ?_) | (change zp _ _ _ _ _; refine zC rfl (by repeat' (first | trivial | refine And.intro ?_ ?_ | (show 0 + _ ≤ List.length _; simp))) zW.refl (heq) rfl ?_) | fail)
       have hP : zbz m a b := ⟨hal, fun p hp => by
        obtain ⟨j, hj⟩ := List.getElem?_of_mem hp
        exact hpa j (List.getElem?_eq_some_iff.1 hj).1 p hj, hcs⟩
       rw [zaS hP]
       unfold zkZ
       rw [if_pos (zaS hP)]
       exact ⟨ALe.refl⟩
     · have hcs' : ¬ xH Load.opt m.counts = xH (zO m a b) m.counts := hcs
       rw [zaj hcs'] at heq
       repeat' (first | ((change zp _ _ _ _ _; refine qw rfl (by repeat' (first | trivial | refine And.intro ?_ ?_ | (show 0 + _ ≤ List.length _; simp))) zW.refl hb ?_; rintro _ rfl)) | ((change zp _ _ _ _ _; refine qw rfl (by repeat' (first | trivial | refine And.intro ?_ ?_ | (show 0 + _ ≤ List.length _; simp))) zW.refl haf ?_; rintro _ rfl)) | refine o1 ?_ | refine o2 ?_ | refine k1 ?_ | refine k2 ?_ | refine k3 ?_ | refine k7 ?_ | refine k8 ?_ | refine And.intro ?_ ?_ | (intro h; first | exact Bool.noConfusion h | exact nz _ h | exact nl h | (simp at h; done) | (simp at h; first | (exfalso; omega) | skip) | skip) | (change zx _ _ _ _; refine zd rfl trivial ?_) | (change zp _ _ _ _ _; refine zC rfl (by repeat' (first | trivial | refine And.intro ?_ ?_ | (show 0 + _ ≤ List.length _; simp))) zW.refl (heq) rfl ?_) | fail)
       exact zoK fun k => hcs k.2.2
theorem zpv (m : Model) (a b : Int) (hz : qJ m) (hg : zdQ m) : zH Tryz.prog 35 [ag m.cells, zg .i64 a, zg .i64 b] (fun r => r = .tup [.pv (.sl 1 ((zkZ m a b).map qg)), zo (pB (zbz m a b))]) :=
 (c_swapM0 m a b hz hg).weak fun r k => ⟨_, k.le, rfl⟩
end Go.Proofs.YtihpjcmloecaaaaGreat.Cw
namespace Go.Proofs.YtihpjcmloecaaaaGreat.Cw
open Go Go.Cw Go.Proofs
set_option linter.unusedVariables false
set_option maxRecDepth 100000
set_option maxHeartbeats 8000000
theorem c_exch (r a b : Int) : zH Tryz.prog 37 [zg .i64 r, zg .i64 a, zg .i64 b] (fun x => x = zg .i64 (zfA r a b)) := by
 refine zh tok mixed 16 rfl (fn := Tryz.f37) (c := Tryz.f37.body.getD .skip) (by kernel_rfl) (by kernel_rfl) (by kernel_rfl) rfl 0 rfl ?_
 repeat' (first | refine o1 ?_ | refine o2 ?_ | refine k1 ?_ | refine k2 ?_ | refine k3 ?_ | refine k6 ?_ | refine k7 ?_ | refine And.intro ?_ ?_ | (intro h; first | exact Bool.noConfusion h | exact nz _ h | exact nl h | (simp at h; done) | (simp at h; first | (exfalso; omega) | skip) | skip) | (change zx _ _ _ _; refine zd rfl trivial ?_) | fail)
 all_goals first
  | exact congrArg (zg .i64) (exch_a (by assumption)).symm
  | exact congrArg (zg .i64) (exch_b (by assumption) (by assumption)).symm
  | exact congrArg (zg .i64) (exch_n (by assumption) (by assumption)).symm
  | (subst_vars; simp_all [zfA]; done)
theorem zjN {p q : Placed} (h1 : p.time.weeks = q.time.weeks) (h2 : p.time.day = q.time.day) (h3 : p.time.start = q.time.start) (h4 : p.time.len = q.time.len) (h5 : p.room = q.room) : p = q := by
 obtain ⟨⟨a, b, c, d⟩, e⟩ := p
 obtain ⟨⟨a', b', c', d'⟩, e'⟩ := q
 simp only at h1 h2 h3 h4 h5
 subst h1; subst h2; subst h3; subst h4; subst h5; rfl
def movI : Option Nat → Int
 | some j => j
 | none => -1
theorem c_moved (l : List Opt) (i : Nat) (r : Int) (hl : l.length ≤ 1000) (hi : i < l.length) : zH Tryz.prog 36 [.pv (.sl 6 (l.map Opt.row)), zg .i64 i, zg .i64 r] (fun x => x = zg .i64 (movI (za3 l i r))) := by
 obtain ⟨o, ho⟩ := qj hi
 have himg : za3 l i r = (qk l (qU o.place r) l.length)[(qk l o.place i).length]? := by unfold za3; rw [ho]
 rw [himg]
 have hK := zc5 (l := l) (p := o.place) (n := i)
 refine zh tok mixed 55 rfl (fn := Tryz.f36) (c := Tryz.f36.body.getD .skip) (by kernel_rfl) (by kernel_rfl) (by kernel_rfl) rfl 0 rfl ?_
 repeat' (first | refine o1 ?_ | refine o2 ?_ | refine k1 ?_ | refine k2 ?_ | refine k4 ?_ | fail)
 refine qu (fun u : Nat => [(7, zg .i64 (qk l o.place u).length), (8, zg .i64 u)]) (fun _ => []) (fun u => u ≤ i) (fun u => i - u) 0 (Nat.zero_le _) (by repeat' (first | exact trivial | exact ⟨_, rfl, ALe.refl⟩ | refine And.intro ?_ ?_)) (by repeat' (first | exact trivial)) ?_
 intro u hu
 rcases Nat.lt_or_ge u i with hui | hui
 · obtain ⟨q, hq⟩ := qj (show u < l.length by omega)
   by_cases hqo : q.place = o.place
   · have hs := zaN (zaJ hq hqo)
     have hls := zc5 (l := l) (p := o.place) (n := u)
     have e1 : (qk l o.place (u + 1)).length = (qk l o.place u).length + 1 := by rw [hs, List.length_append]; rfl
     have hq1 := congrArg (fun p : Placed => p.time.weeks) hqo
     have hq2 := congrArg (fun p : Placed => p.time.day) hqo
     have hq3 := congrArg (fun p : Placed => p.time.start) hqo
     have hq4 := congrArg (fun p : Placed => p.time.len) hqo
     have hq5 := congrArg (fun p : Placed => p.room) hqo
     have hback : ∀ {x : Nat}, x = u + 1 → (zg .i64 ((qk l o.place x).length : Nat)) = zg .i64 ((qk l o.place u).length + 1 : Nat) := fun e => by subst e; rw [e1]
     generalize hKK : (qk l o.place u).length = K at *
     repeat' (first | (refine zj (k := u) (zf hq) (by omega) ?_) | (refine zj (k := i) (zf ho) (by omega) ?_) | refine o1 ?_ | refine o2 ?_ | refine k1 ?_ | refine k2 ?_ | refine k3 ?_ | refine k4 ?_ | refine k6 ?_ | refine And.intro ?_ ?_ | refine o3 ?_ | refine o4 ?_ | (intro h; first | exact Bool.noConfusion h | exact nz _ h | exact nl h | (simp at h; done) | (simp at h; first | (exfalso; omega) | skip) | skip) | exact (by kernel_rfl : zn _ _ = true) | refine zc (by omega) (by omega) ?_ | fail)
     all_goals first
      | (exfalso; omega)
      | exact ⟨u + 1, by omega, by omega, by rw [e1]; exact zJ [] rfl rfl trivial (by repeat' (first | exact trivial | exact rfl | refine And.intro ?_ ?_))⟩
   · have hs := zbF (zfT hq hqo)
     repeat' (first | (refine zj (k := u) (zf hq) (by omega) ?_) | (refine zj (k := i) (zf ho) (by omega) ?_) | refine o1 ?_ | refine o2 ?_ | refine k1 ?_ | refine k2 ?_ | refine k3 ?_ | refine k4 ?_ | refine k6 ?_ | refine And.intro ?_ ?_ | refine o3 ?_ | refine o4 ?_ | (intro h; first | exact Bool.noConfusion h | exact nz _ h | exact nl h | (simp at h; done) | (simp at h; first | (exfalso; omega) | skip) | skip) | exact (by kernel_rfl : zn _ _ = true) | refine zc (by omega) (by omega) ?_ | fail)
     all_goals first
      | (exfalso; rename_i h; exact hqo (zjN h.1.1 h.1.2.1 h.1.2.2.1 h.1.2.2.2 h.2))
      | exact ⟨u + 1, by omega, by omega, by rw [hs]; exact zJ [] rfl rfl trivial (by repeat' (first | exact trivial | exact rfl | refine And.intro ?_ ?_))⟩
 · obtain rfl : u = i := by omega
   generalize hKK : (qk l o.place u).length = K at *
   repeat' (first | (refine zj (k := u) (zf ho) (by omega) ?_) | refine o1 ?_ | refine o2 ?_ | refine k1 ?_ | refine k2 ?_ | refine k3 ?_ | refine k4 ?_ | refine k8 ?_ | refine And.intro ?_ ?_ | (intro h; first | exact Bool.noConfusion h | exact nz _ h | exact nl h | (simp at h; done) | (simp at h; first | (exfalso; omega) | skip) | skip) | exact (by kernel_rfl : zn _ _ = true) | fail)
   refine qu (fun v : Nat => [(7, zg .i64 (K - (qk l (qU o.place r) v).length)), (10, zg .i64 v)]) (fun _ => []) (fun v => v ≤ l.length ∧ (qk l (qU o.place r) v).length ≤ K) (fun v => l.length - v) 0 ⟨Nat.zero_le _, Nat.zero_le _⟩ (by repeat' (first | exact trivial | exact ⟨_, rfl, ALe.refl⟩ | refine And.intro ?_ ?_)) (by repeat' (first | exact trivial | exact rfl | refine And.intro ?_ ?_)) ?_
   intro v ⟨hv, hvk⟩
   rcases Nat.lt_or_ge v l.length with hvl | hvg
   · obtain ⟨q, hq⟩ := qj hvl
     by_cases hqo : q.place = qU o.place r
     · have hs := zaN (zaJ hq hqo)
       have hat := zcv (zaJ hq hqo) hvl
       have e1 : (qk l (qU o.place r) (v + 1)).length = (qk l (qU o.place r) v).length + 1 := by rw [hs, List.length_append]; rfl
       have hq1 : q.place.time.weeks = o.place.time.weeks := by rw [hqo]; rfl
       have hq2 : q.place.time.day = o.place.time.day := by rw [hqo]; rfl
       have hq3 : q.place.time.start = o.place.time.start := by rw [hqo]; rfl
       have hq4 : q.place.time.len = o.place.time.len := by rw [hqo]; rfl
       have hq5 : q.place.room = r := by rw [hqo]; rfl
       generalize hJJ : (qk l (qU o.place r) v).length = J at *
       repeat' (first | (refine zj (k := v) (zf hq) (by omega) ?_) | refine o1 ?_ | refine o2 ?_ | refine k1 ?_ | refine k2 ?_ | refine k3 ?_ | refine k4 ?_ | refine k6 ?_ | refine k7 ?_ | refine And.intro ?_ ?_ | refine o3 ?_ | refine o4 ?_ | (intro h; first | exact Bool.noConfusion h | exact nz _ h | exact nl h | (simp at h; done) | (simp at h; first | (exfalso; omega) | skip) | skip) | (change zx _ _ _ _; refine zd rfl trivial ?_) | exact (by kernel_rfl : zn _ _ = true) | refine za ?_ | refine zc (by omega) (by omega) ?_ | fail)
       all_goals first
        | (exfalso; omega)
        | (have hJK : J = K := by omega
           rw [hJK] at hat
           rw [hat]; rfl)
        | exact ⟨v + 1, ⟨by omega, by omega⟩, by omega, by rw [e1, show ((K : Int) - ((J + 1 : Nat) : Int)) = (K : Int) - J - 1 by omega]; exact zJ [0] rfl rfl ⟨rfl, trivial⟩ (by repeat' (first | exact trivial | exact rfl | refine And.intro ?_ ?_))⟩
     · have hs := zbF (zfT hq hqo)
       have hno : (q.place.time.weeks = o.place.time.weeks ∧ q.place.time.day = o.place.time.day ∧ q.place.time.start = o.place.time.start ∧ q.place.time.len = o.place.time.len) ∧ q.place.room = r → False := fun h => hqo (zjN h.1.1 h.1.2.1 h.1.2.2.1 h.1.2.2.2 h.2)
       repeat' (first | (refine zj (k := v) (zf hq) (by omega) ?_) | refine o1 ?_ | refine o2 ?_ | refine k1 ?_ | refine k2 ?_ | refine k3 ?_ | refine k4 ?_ | refine k6 ?_ | refine k7 ?_ | refine And.intro ?_ ?_ | refine o3 ?_ | refine o4 ?_ | (intro h; first | exact Bool.noConfusion h | exact nz _ h | exact nl h | (simp at h; done) | (simp at h; first | (exfalso; omega) | skip) | skip) | (change zx _ _ _ _; refine zd rfl trivial ?_) | exact (by kernel_rfl : zn _ _ = true) | refine za ?_ | refine zc (by omega) (by omega) ?_ | fail)
       all_goals first
        | exact (hno (by assumption)).elim
        | exact ⟨v + 1, ⟨by omega, by rw [hs]; exact hvk⟩, by omega, by rw [hs]; exact zJ [0] rfl rfl ⟨rfl, trivial⟩ (by repeat' (first | exact trivial | exact rfl | refine And.intro ?_ ?_))⟩
   · obtain rfl : v = l.length := by omega
     have hnone : (qk l (qU o.place r) l.length)[K]? = none := List.getElem?_eq_none hvk
     repeat' (first | refine o1 ?_ | refine o2 ?_ | refine k1 ?_ | refine k2 ?_ | refine k3 ?_ | refine k7 ?_ | refine k8 ?_ | refine And.intro ?_ ?_ | (intro h; first | exact Bool.noConfusion h | exact nz _ h | exact nl h | (simp at h; done) | (simp at h; first | (exfalso; omega) | skip) | skip) | (change zx _ _ _ _; refine zd rfl trivial ?_) | refine za ?_ | fail)
     all_goals first
      | (exfalso; omega)
      | (rw [hnone]; rfl)
theorem c_sameCh (a b : Opt) (ha : a.charges.length ≤ 100000) (hb : b.charges.length ≤ 100000) : zH Tryz.prog 38 [ag a.row, ag b.row] (fun r => r = zo (pB (a.charges = b.charges))) := by
 obtain ⟨ap, a⟩ := a
 obtain ⟨bp, b⟩ := b
 dsimp only at ha hb ⊢
 refine zh tok mixed 31 rfl (fn := Tryz.f38) (c := Tryz.f38.body.getD .skip) (by kernel_rfl) (by kernel_rfl) (by kernel_rfl) rfl 0 rfl ?_
 repeat' (first | refine o1 ?_ | refine o2 ?_ | refine k1 ?_ | refine k2 ?_ | refine k3 ?_ | refine k4 ?_ | refine k6 ?_ | refine k7 ?_ | refine And.intro ?_ ?_ | (intro h; first | exact Bool.noConfusion h | exact nz _ h | exact nl h | (simp at h; done) | (simp at h; first | (exfalso; omega) | skip) | skip) | (change zx _ _ _ _; refine zd rfl trivial ?_) | refine za ?_ | fail)
 · exact congrArg zo (zaj fun e => by subst e; simp_all).symm
 · have hl : a.length = b.length := by omega
   refine qu (fun i : Nat => [(5, zg .i64 i)]) (fun _ => []) (fun i => i ≤ a.length ∧ ∀ j, j < i → ∀ x y, a[j]? = some x → b[j]? = some y → x = y) (fun i => a.length - i) 0 ⟨Nat.zero_le _, fun j hj => by omega⟩ (by repeat' (first | exact trivial | exact ⟨_, rfl, ALe.refl⟩ | refine And.intro ?_ ?_)) (by repeat' (first | exact trivial | exact rfl | refine And.intro ?_ ?_)) ?_
   intro i ⟨hi, hall⟩
   rcases Nat.lt_or_ge i a.length with hlt | hge
   · obtain ⟨x, hx⟩ := qj hlt
     obtain ⟨y, hy⟩ := qj (show i < b.length by omega)
     repeat' (first | (refine zj (k := i) (zf hx) (by omega) ?_) | (refine zj (k := i) (zf hy) (by omega) ?_) | refine o1 ?_ | refine o2 ?_ | refine k1 ?_ | refine k2 ?_ | refine k3 ?_ | refine k4 ?_ | refine k6 ?_ | refine k7 ?_ | refine And.intro ?_ ?_ | refine o3 ?_ | refine o4 ?_ | (intro h; first | exact Bool.noConfusion h | exact nz _ h | exact nl h | (simp at h; done) | (simp at h; first | (exfalso; omega) | skip) | skip) | (change zx _ _ _ _; refine zd rfl trivial ?_) | exact (by kernel_rfl : zn _ _ = true) | refine za ?_ | refine zc (by omega) (by omega) ?_ | fail)
     · exact congrArg zo (zaj fun e => by
        subst e
        rw [hx] at hy; injection hy with hy; subst hy
        rename_i h
        rcases h with h | h <;> exact h rfl).symm
     · rename_i h
       exact ⟨i + 1, ⟨by omega, zz hall fun x' y' q1 q2 => by rw [hx] at q1; cases q1; rw [hy] at q2; cases q2; exact zks h.1 h.2⟩, by omega, zJ [0, 1] rfl rfl ⟨rfl, rfl, trivial⟩ (by repeat' (first | exact trivial | exact rfl | refine And.intro ?_ ?_))⟩
   · repeat' (first | refine o1 ?_ | refine o2 ?_ | refine k1 ?_ | refine k2 ?_ | refine k3 ?_ | refine k7 ?_ | refine k8 ?_ | refine And.intro ?_ ?_ | (intro h; first | exact Bool.noConfusion h | exact nz _ h | exact nl h | (simp at h; done) | (simp at h; first | (exfalso; omega) | skip) | skip) | (change zx _ _ _ _; refine zd rfl trivial ?_) | refine za ?_ | fail)
     exact congrArg zo (zaS (ziT hl fun j hj => hall j (by omega))).symm
def wtL : List Load → Int → Int → Int
 | [], _, _ => 0
 | x :: l, c, o => if x.cls = c ∧ x.opt = o then x.weight else wtL l c o
theorem c_weight (c : Count) (cl o : Int) (hc : c.loads.length ≤ 100000) : zH Tryz.prog 89 [ag c.row, zg .i64 cl, zg .i64 o] (fun r => r = zg .i64 (wtL c.loads cl o)) := by
 obtain ⟨cr, l, cm, cp⟩ := c
 dsimp only at hc ⊢
 refine zh tok mixed 39 rfl (fn := Tryz.f89) (c := Tryz.f89.body.getD .skip) (by kernel_rfl) (by kernel_rfl) (by kernel_rfl) rfl 0 rfl ?_
 repeat' (first | refine o1 ?_ | refine o2 ?_ | refine k1 ?_ | refine k2 ?_ | refine k4 ?_ | fail)
 refine qu (fun i : Nat => [(7, zg .i64 i)]) (fun _ => []) (fun i => i ≤ l.length ∧ wtL (l.drop i) cl o = wtL l cl o) (fun i => l.length - i) 0 ⟨Nat.zero_le _, rfl⟩ (by repeat' (first | exact trivial | exact ⟨_, rfl, ALe.refl⟩ | refine And.intro ?_ ?_)) (by repeat' (first | exact trivial | exact rfl | refine And.intro ?_ ?_)) ?_
 intro i ⟨hi, hw⟩
 rcases Nat.lt_or_ge i l.length with hlt | hge
 · obtain ⟨x, hx⟩ := qj hlt
   have e1 : wtL (l.drop i) cl o = if x.cls = cl ∧ x.opt = o then x.weight else wtL (l.drop (i + 1)) cl o := by rw [zbu hx]; rfl
   by_cases hm : x.cls = cl ∧ x.opt = o
   · rw [if_pos hm] at e1
     repeat' (first | (refine zj (k := i) (zf hx) (by omega) ?_) | refine o1 ?_ | refine o2 ?_ | refine k1 ?_ | refine k2 ?_ | refine k3 ?_ | refine k4 ?_ | refine k6 ?_ | refine k7 ?_ | refine And.intro ?_ ?_ | (intro h; first | exact Bool.noConfusion h | exact nz _ h | exact nl h | (simp at h; done) | (simp at h; first | (exfalso; omega) | skip) | skip) | (change zx _ _ _ _; refine zd rfl trivial ?_) | refine za ?_ | fail)
     all_goals first
      | (exfalso; simp_all; done)
      | (rw [← hw, e1]; rfl)
   · rw [if_neg hm] at e1
     repeat' (first | (refine zj (k := i) (zf hx) (by omega) ?_) | refine o1 ?_ | refine o2 ?_ | refine k1 ?_ | refine k2 ?_ | refine k3 ?_ | refine k4 ?_ | refine k6 ?_ | refine And.intro ?_ ?_ | (intro h; first | exact Bool.noConfusion h | exact nz _ h | exact nl h | (simp at h; done) | (simp at h; first | (exfalso; omega) | skip) | skip) | refine za ?_ | refine zc (by omega) (by omega) ?_ | fail)
     all_goals first
      | (exfalso; exact hm (by first | assumption | exact ⟨by assumption, by assumption⟩))
      | exact ⟨i + 1, ⟨by omega, by rw [← e1]; exact hw⟩, by omega, zJ [0] rfl rfl ⟨rfl, trivial⟩ (by repeat' (first | exact trivial | exact rfl | refine And.intro ?_ ?_))⟩
 · obtain rfl : i = l.length := by omega
   rw [List.drop_length] at hw
   repeat' (first | refine o1 ?_ | refine o2 ?_ | refine k1 ?_ | refine k2 ?_ | refine k3 ?_ | refine k7 ?_ | refine k8 ?_ | refine And.intro ?_ ?_ | (intro h; first | exact Bool.noConfusion h | exact nz _ h | exact nl h | (simp at h; done) | (simp at h; first | (exfalso; omega) | skip) | skip) | (change zx _ _ _ _; refine zd rfl trivial ?_) | refine za ?_ | fail)
   rw [← hw]; rfl
end Go.Proofs.YtihpjcmloecaaaaGreat.Cw
namespace Go.Proofs.YtihpjcmloecaaaaGreat.Cw
open Go Go.Cw Go.Proofs
set_option linter.unusedVariables false
set_option maxRecDepth 100000
set_option maxHeartbeats 8000000
def exP (m : Model) (a b : Int) : Prop := qx m = 0 ∧ a ≠ b ∧ 0 ≤ a ∧ 0 ≤ b ∧ zbz m a b
noncomputable def exV (m : Model) (a b : Int) : List (List Nat) := if pB (exP m a b) then xk m a b else []
theorem zfx {m : Model} {a b : Int} (h : ¬ exP m a b) : Leq (.tup [.pv (.val (.slice none 0 0)), .pv (.val (.bool false))]) (.tup [.pv (.sl 1 ((exV m a b).map qg)), zo (pB (exP m a b))]) := by
 unfold exV
 rw [if_neg (by rw [zaj h]; simp), zaj h]
 exact ⟨ALe.tup ⟨ALe.pv PLe.nil, ALe.refl, trivial⟩⟩
theorem zak {m : Model} (h : qx m = 0) : zdQ m := Classical.byContradiction fun hn => by rw [mE1 (qP h) hn] at h; cases h
theorem c_Swap0 (m : Model) (a b : Int) (hl : Laid m) : zH Tryz.prog 13 [ag m.cells, zg .i64 a, zg .i64 b] (fun r => Leq r (.tup [.pv (.sl 1 ((exV m a b).map qg)), zo (pB (exP m a b))])) := by
 have hv := zjd m hl
 by_cases hok : qx m = 0
 · have hsw := zpv m a b (qP hok) (zak hok)
   rw [hok] at hv
   by_cases hab : a ≠ b ∧ 0 ≤ a ∧ 0 ≤ b
   · have e : exP m a b ↔ zbz m a b := ⟨fun h => h.2.2.2.2, fun h => ⟨hok, hab.1, hab.2.1, hab.2.2, h⟩⟩
     have e1 : pB (exP m a b) = pB (zbz m a b) := zgG e
     have e2 : exV m a b = zkZ m a b := by unfold exV zkZ; rw [e1]
     rw [e1, e2]
     refine zh tok mixed 30 rfl (fn := Tryz.f13) (c := Tryz.f13.body.getD .skip) (by kernel_rfl) (by kernel_rfl) (by kernel_rfl) rfl 0 rfl ?_
     repeat' (first | ((change zp _ _ _ _ _; refine qw rfl (by repeat' (first | trivial | refine And.intro ?_ ?_ | (show 0 + _ ≤ List.length _; simp))) zW.refl hsw ?_; rintro _ rfl)) | refine o1 ?_ | refine o2 ?_ | refine k1 ?_ | refine k2 ?_ | refine k3 ?_ | refine k6 ?_ | refine k7 ?_ | refine And.intro ?_ ?_ | (intro h; first | exact Bool.noConfusion h | exact nz _ h | exact nl h | (simp at h; done) | (simp at h; first | (exfalso; omega) | skip) | skip) | (change zx _ _ _ _; refine zd rfl trivial ?_) | (change zp _ _ _ _ _; refine zC rfl (by repeat' (first | trivial | refine And.intro ?_ ?_ | (show 0 + _ ≤ List.length _; simp))) zW.refl (hv) rfl ?_) | fail)
     all_goals first
      | (exfalso; omega)
      | exact ⟨ALe.refl⟩
   · have hno : ¬ exP m a b := fun h => hab ⟨h.2.1, h.2.2.1, h.2.2.2.1⟩
     refine zh tok mixed 30 rfl (fn := Tryz.f13) (c := Tryz.f13.body.getD .skip) (by kernel_rfl) (by kernel_rfl) (by kernel_rfl) rfl 0 rfl ?_
     repeat' (first | refine o1 ?_ | refine o2 ?_ | refine k1 ?_ | refine k2 ?_ | refine k3 ?_ | refine k7 ?_ | refine And.intro ?_ ?_ | (intro h; first | exact Bool.noConfusion h | exact nz _ h | exact nl h | (simp at h; done) | (simp at h; first | (exfalso; omega) | skip) | skip) | (change zx _ _ _ _; refine zd rfl trivial ?_) | (change zp _ _ _ _ _; refine zC rfl (by repeat' (first | trivial | refine And.intro ?_ ?_ | (show 0 + _ ≤ List.length _; simp))) zW.refl (hv) rfl ?_) | fail)
     all_goals first
      | (exfalso; omega)
      | exact zfx hno
      | (exfalso; exact hab ⟨by assumption, by omega, by omega⟩)
 · have hno : ¬ exP m a b := fun h => hok h.1
   generalize qx m = E at hv hok
   refine zh tok mixed 30 rfl (fn := Tryz.f13) (c := Tryz.f13.body.getD .skip) (by kernel_rfl) (by kernel_rfl) (by kernel_rfl) rfl 0 rfl ?_
   repeat' (first | refine o1 ?_ | refine o2 ?_ | refine k1 ?_ | refine k2 ?_ | refine k3 ?_ | refine k7 ?_ | refine And.intro ?_ ?_ | (intro h; first | exact Bool.noConfusion h | exact nz _ h | exact nl h | (simp at h; done) | (simp at h; first | (exfalso; omega) | skip) | skip) | (change zx _ _ _ _; refine zd rfl trivial ?_) | (change zp _ _ _ _ _; refine zC rfl (by repeat' (first | trivial | refine And.intro ?_ ?_ | (show 0 + _ ≤ List.length _; simp))) zW.refl (hv) rfl ?_) | fail)
   all_goals first
    | (exfalso; omega)
    | exact zfx hno
theorem c_Swap (m : Model) (a b : Int) (hl : Laid m) : zH Tryz.prog 13 [ag m.cells, zg .i64 a, zg .i64 b] (fun r => r = .tup [.pv (.sl 1 ((exV m a b).map qg)), zo (pB (exP m a b))]) :=
 (c_Swap0 m a b hl).weak fun r k => ⟨_, k.le, rfl⟩
def imgd (g : Load → Int) (a b : Count) : Prop := a.rule = b.rule ∧ a.most = b.most ∧ a.penalty = b.penalty ∧ a.loads.length = b.loads.length ∧ ∀ (i : Nat) (x : Load), a.loads[i]? = some x → wtL b.loads x.cls (g x) = x.weight
theorem c_imaged (a b : Count) (V : List (List Nat)) (g : Load → Int) (hal : a.loads.length ≤ 100000) (hbl : b.loads.length ≤ 100000) (hg : ∀ x ∈ a.loads, 0 ≤ x.cls ∧ 0 ≤ x.opt ∧ ∃ (v : List Nat) (j : Nat), V[x.cls.toNat]? = some v ∧ v[x.opt.toNat]? = some j ∧ g x = j) :
  zH Tryz.prog 40 [ag a.row, ag b.row, .pv (.sl 1 (V.map qg))] (fun r => r = zo (pB (imgd g a b))) := by
 refine zh tok mixed 65 rfl (fn := Tryz.f40) (c := Tryz.f40.body.getD .skip) (by kernel_rfl) (by kernel_rfl) (by kernel_rfl) rfl 0 rfl ?_
 by_cases h1 : a.rule = b.rule ∧ a.most = b.most ∧ a.penalty = b.penalty ∧ a.loads.length = b.loads.length
 · obtain ⟨q1, q2, q3, q4⟩ := h1
   repeat' (first | refine o1 ?_ | refine o2 ?_ | refine k1 ?_ | refine k2 ?_ | refine k3 ?_ | refine k4 ?_ | refine k6 ?_ | refine And.intro ?_ ?_ | (intro h; first | exact Bool.noConfusion h | exact nz _ h | exact nl h | (simp at h; done) | (simp at h; first | (exfalso; omega) | skip) | skip) | refine za ?_ | fail)
   all_goals first
    | (exfalso; omega)
    | skip
   refine qu (fun i : Nat => [(7, zg .i64 i)]) (fun _ => []) (fun i => i ≤ a.loads.length ∧ ∀ j, j < i → ∀ x, a.loads[j]? = some x → wtL b.loads x.cls (g x) = x.weight) (fun i => a.loads.length - i) 0 ⟨Nat.zero_le _, fun j hj => by omega⟩ (by repeat' (first | exact trivial | exact ⟨_, rfl, ALe.refl⟩ | refine And.intro ?_ ?_)) (by repeat' (first | exact trivial | exact rfl | refine And.intro ?_ ?_)) ?_
   intro i ⟨hi, hall⟩
   rcases Nat.lt_or_ge i a.loads.length with hlt | hge
   · obtain ⟨x, hx⟩ := qj hlt
     obtain ⟨p1, p2, v, j, p3, p4, p5⟩ := hg x (List.mem_of_getElem? hx)
     have hw := c_weight b x.cls (g x) hbl
     have hk1 : x.cls = (x.cls.toNat : Int) := by omega
     have hk2 : x.opt = (x.opt.toNat : Int) := by omega
     rw [p5] at hw
     have hgo : wtL b.loads x.cls j = x.weight → ∀ y, a.loads[i]? = some y → wtL b.loads y.cls (g y) = y.weight := fun h y hy => by
      rw [hx] at hy; cases hy; rw [p5]; exact h
     have hst : ¬ wtL b.loads x.cls j = x.weight → ¬ imgd g a b := fun h k => h (by rw [← p5]; exact k.2.2.2.2 i x hx)
     generalize wtL b.loads x.cls j = W at *
     repeat' (first | (refine zj (k := i) (zf hx) (by omega) ?_) | (refine zj (k := x.cls.toNat) (zf p3) hk1 ?_) | (refine zj (k := x.opt.toNat) (zf p4) hk2 ?_) | refine o1 ?_ | refine o2 ?_ | refine k1 ?_ | refine k2 ?_ | refine k3 ?_ | refine k4 ?_ | refine k6 ?_ | refine k7 ?_ | refine And.intro ?_ ?_ | refine o3 ?_ | refine o4 ?_ | (intro h; first | exact Bool.noConfusion h | exact nz _ h | exact nl h | (simp at h; done) | (simp at h; first | (exfalso; omega) | skip) | skip) | (change zx _ _ _ _; refine zd rfl trivial ?_) | exact (by kernel_rfl : zn _ _ = true) | refine za ?_ | refine zc (by omega) (by omega) ?_ | (change zI _ _ _ _ _; refine zF rfl (by repeat' (first | trivial | refine And.intro ?_ ?_ | (show 0 + _ ≤ List.length _; simp))) zW.refl (hw) rfl ?_) | fail)
     all_goals first
      | exact congrArg zo (zaj (hst (by assumption))).symm
      | exact ⟨i + 1, ⟨by omega, zz hall (hgo (by assumption))⟩, by omega, zJ [0, 1] rfl rfl ⟨rfl, rfl, trivial⟩ (by repeat' (first | exact trivial | exact rfl | refine And.intro ?_ ?_))⟩
   · repeat' (first | refine o1 ?_ | refine o2 ?_ | refine k1 ?_ | refine k2 ?_ | refine k3 ?_ | refine k7 ?_ | refine k8 ?_ | refine And.intro ?_ ?_ | (intro h; first | exact Bool.noConfusion h | exact nz _ h | exact nl h | (simp at h; done) | (simp at h; first | (exfalso; omega) | skip) | skip) | (change zx _ _ _ _; refine zd rfl trivial ?_) | refine za ?_ | fail)
     exact congrArg zo (zaS ⟨q1, q2, q3, q4, fun j x hx => hall j (by have := (List.getElem?_eq_some_iff.1 hx).1; omega) x hx⟩).symm
 · have hno : ¬ imgd g a b := fun k => h1 ⟨k.1, k.2.1, k.2.2.1, k.2.2.2.1⟩
   repeat' (first | refine o1 ?_ | refine o2 ?_ | refine k1 ?_ | refine k2 ?_ | refine k3 ?_ | refine k7 ?_ | refine And.intro ?_ ?_ | (intro h; first | exact Bool.noConfusion h | exact nz _ h | exact nl h | (simp at h; done) | (simp at h; first | (exfalso; omega) | skip) | skip) | (change zx _ _ _ _; refine zd rfl trivial ?_) | refine za ?_ | fail)
   all_goals first
    | exact congrArg zo (zaj hno).symm
    | (exfalso; omega)
end Go.Proofs.YtihpjcmloecaaaaGreat.Cw
namespace Go.Proofs.YtihpjcmloecaaaaGreat.Cw
open Go Go.Cw Go.Proofs
set_option linter.unusedVariables false
set_option maxRecDepth 100000
section
variable {κ : Type}
def tkn : List Bool → List κ → List κ
 | true :: T, y :: ys => y :: tkn T ys
 | false :: T, _ :: ys => tkn T ys
 | _, _ => []
def utk : List Bool → List κ → List κ
 | true :: T, _ :: ys => utk T ys
 | false :: T, y :: ys => y :: utk T ys
 | _, _ => []
theorem zep : ∀ {T : List Bool} {ys : List κ}, T.length = ys.length → (tkn T ys ++ utk T ys).Perm ys
 | [], [], _ => List.Perm.refl _
 | [], _ :: _, h => by simp at h
 | _ :: _, [], h => by simp at h
 | true :: T, y :: ys, h => by
   show (y :: (tkn T ys ++ utk T ys)).Perm _
   exact (zep (by simpa using h)).cons y
 | false :: T, y :: ys, h => by
   show (tkn T ys ++ y :: utk T ys).Perm _
   exact List.perm_middle.trans ((zep (by simpa using h)).cons y)
theorem zkY {y : κ} : ∀ {T : List Bool} {ys : List κ} {k : Nat}, T[k]? = some false → ys[k]? = some y → (tkn (T.set k true) ys).Perm (y :: tkn T ys)
 | [], _, _, h, _ => by simp at h
 | _ :: _, [], _, _, h => by simp at h
 | t :: T, z :: ys, 0, h1, h2 => by
   simp only [List.getElem?_cons_zero, Option.some.injEq] at h1 h2
   subst h1; subst h2
   exact List.Perm.refl _
 | true :: T, z :: ys, k + 1, h1, h2 => by
   have ih := zkY (T := T) (ys := ys) (k := k) (by simpa using h1) (by simpa using h2)
   show (z :: tkn (T.set k true) ys).Perm (y :: z :: tkn T ys)
   exact (ih.cons z).trans (List.Perm.swap ..)
 | false :: T, z :: ys, k + 1, h1, h2 => zkY (T := T) (ys := ys) (k := k) (by simpa using h1) (by simpa using h2)
theorem zkU {y : κ} : ∀ {T : List Bool} {ys : List κ}, y ∈ utk T ys → ∃ k : Nat, T[k]? = some false ∧ ys[k]? = some y
 | [], _, h => by simp [utk] at h
 | _ :: _, [], h => by simp [utk] at h
 | true :: T, z :: ys, h => by
   obtain ⟨k, h1, h2⟩ := zkU (T := T) (ys := ys) h
   exact ⟨k + 1, by simpa using h1, by simpa using h2⟩
 | false :: T, z :: ys, h => by
   rcases List.mem_cons.1 h with rfl | h
   · exact ⟨0, rfl, rfl⟩
   · obtain ⟨k, h1, h2⟩ := zkU (T := T) (ys := ys) h
     exact ⟨k + 1, by simpa using h1, by simpa using h2⟩
theorem zlW : ∀ {n : Nat} {ys : List κ}, tkn (List.replicate n false) ys = []
 | 0, _ => rfl
 | n + 1, [] => rfl
 | n + 1, _ :: ys => by rw [List.replicate_succ]; exact zlW (n := n) (ys := ys)
structure Grd (xs ys : List κ) (i : Nat) (T : List Bool) : Prop where
 len : T.length = ys.length
 perm : (tkn T ys).Perm (xs.take i)
theorem Grd.start {xs ys : List κ} : Grd xs ys 0 (List.replicate ys.length false) := ⟨List.length_replicate, by rw [zlW]; exact List.Perm.refl _⟩
theorem Grd.next {xs ys : List κ} {i k : Nat} {T : List Bool} {x : κ} (h : Grd xs ys i T) (hx : xs[i]? = some x) (hk : T[k]? = some false) (hy : ys[k]? = some x) : Grd xs ys (i + 1) (T.set k true) :=
 ⟨by rw [List.length_set]; exact h.len, by
   rw [xS hx]
   exact (zkY hk hy).trans ((h.perm.cons x).trans (List.perm_append_singleton x _).symm)⟩
theorem Grd.stop {xs ys : List κ} {i : Nat} {T : List Bool} {x : κ} (h : Grd xs ys i T) (hx : xs[i]? = some x) (hno : ∀ k : Nat, T[k]? = some false → ys[k]? ≠ some x) : ¬ xs.Perm ys := fun hp => by
 have hi := (List.getElem?_eq_some_iff.1 hx).1
 have e : xs = xs.take i ++ x :: xs.drop (i + 1) := by rw [← zbu hx, List.take_append_drop]
 have h1 : (xs.take i ++ utk T ys).Perm (xs.take i ++ x :: xs.drop (i + 1)) := by
  rw [← e]
  exact (h.perm.symm.append_right _).trans ((zep h.len).trans hp.symm)
 have h2 := (List.perm_append_left_iff _).1 h1
 obtain ⟨k, h3, h4⟩ := zkU (h2.symm.subset (by simp : x ∈ x :: xs.drop (i + 1)))
 exact hno k h3 h4
theorem Grd.all {xs ys : List κ} {T : List Bool} (h : Grd xs ys xs.length T) (hl : xs.length = ys.length) : xs.Perm ys := by
 have h1 := h.perm
 rw [List.take_length] at h1
 have h2 := zep h.len
 have h3 := h1.length_eq
 have h4 := h2.length_eq
 rw [List.length_append] at h4
 have h5 : utk T ys = [] := List.eq_nil_of_length_eq_zero (by omega)
 rw [h5, List.append_nil] at h2
 exact h1.symm.trans h2
theorem zhU : ∀ {a b : List κ}, a.Nodup → (∀ x ∈ a, x ∈ b) → a.length = b.length → a.Perm b
 | [], b, _, _, h => by rw [List.eq_nil_of_length_eq_zero (l := b) (by simpa using h.symm)]
 | x :: a, b, hn, hs, h => by
   rw [List.nodup_cons] at hn
   obtain ⟨s, t, rfl⟩ := List.append_of_mem (hs x (by simp))
   have ih := zhU (a := a) (b := s ++ t) hn.2 (fun y hy => by
    have := hs y (by simp [hy])
    rcases List.mem_append.1 this with h1 | h1
    · simp [h1]
    · rcases List.mem_cons.1 h1 with rfl | h1
      · exact absurd hy hn.1
      · simp [h1]) (by simp at h ⊢; omega)
   exact (ih.cons x).trans List.perm_middle.symm
end
theorem exch_inj {r s a b : Int} (h : zfA r a b = zfA s a b) : r = s := by
 unfold zfA at h
 split at h <;> split at h <;> (try split at h) <;> (try split at h) <;> omega
theorem zgm {l : List Opt} {p : Placed} {n : Nat} : (qk l p n).Nodup := List.Pairwise.filter _ List.nodup_range
theorem imN_inj {l : List Opt} {a b : Int} (h : zcX l a b) {i j : Nat} (hi : i < l.length) (hj : j < l.length) (he : imN l a b i = imN l a b j) : i = j := by
 obtain ⟨h1, -⟩ := zdh (h i hi)
 obtain ⟨h2, -⟩ := zdh (h j hj)
 rw [he] at h1
 generalize imN l a b j = q at h1 h2
 obtain ⟨o, ho⟩ := qj hi
 obtain ⟨p, hp⟩ := qj hj
 rw [zbQ ho rfl] at h1
 rw [zbQ hp rfl] at h2
 unfold za3 at h1 h2
 rw [ho] at h1; rw [hp] at h2
 dsimp only at h1 h2
 obtain ⟨o1, k1, k2⟩ := zdF.1 (zb5.1 (List.mem_of_getElem? h1)).2
 obtain ⟨o2, k3, k4⟩ := zdF.1 (zb5.1 (List.mem_of_getElem? h2)).2
 rw [k1] at k3; cases k3
 have hw : qU o.place (zfA o.place.room a b) = qU p.place (zfA p.place.room a b) := k2.symm.trans k4
 have ht : o.place.time = p.place.time := by have := congrArg Placed.time hw; exact this
 have hr : o.place.room = p.place.room := exch_inj (by have := congrArg Placed.room hw; exact this)
 have hpl : o.place = p.place := by
  obtain ⟨⟨t, r⟩, c⟩ := o
  obtain ⟨⟨t', r'⟩, c'⟩ := p
  simp only at ht hr
  subst ht; subst hr; rfl
 rw [hpl] at h1
 have hnd := zgm (l := l) (p := qU p.place (zfA p.place.room a b)) (n := l.length)
 have hK : (qk l p.place i).length = (qk l p.place j).length := by
  have e1 := (List.getElem?_eq_some_iff.1 h1)
  have e2 := (List.getElem?_eq_some_iff.1 h2)
  obtain ⟨b1, e1⟩ := e1
  obtain ⟨b2, e2⟩ := e2
  rcases Nat.lt_trichotomy (qk l p.place i).length (qk l p.place j).length with h | h | h
  · exact absurd (e1.trans e2.symm) (List.pairwise_iff_getElem.1 hnd _ _ b1 b2 h)
  · exact h
  · exact absurd (e2.trans e1.symm) (List.pairwise_iff_getElem.1 hnd _ _ b2 b1 h)
 have g1 := zcv (zaJ ho hpl) hi
 have g2 := zcv (zaJ hp rfl) hj
 rw [hK] at g1
 rw [g1] at g2
 injection g2
def lkey (x : Load) : Int := x.cls * 24 + x.opt
theorem zgP {m : Model} {c : Count} (hz : ∀ l ∈ m.classes, l.length ≤ 24) (h : ∀ i, i < c.loads.length → loadAt m c.loads i) : ∀ {i j : Nat} {x y : Load}, i < j → c.loads[i]? = some x → c.loads[j]? = some y → lkey x < lkey y
 | i, j + 1, x, y, hij, hx, hy => by
   have hj := (List.getElem?_eq_some_iff.1 hy).1
   obtain ⟨z, hz'⟩ := qj (show j < c.loads.length by omega)
   have h1 := (h (j + 1) hj y hy).2.2.2 j z rfl hz'
   have h2 := zfZ hz h hz'
   have h3 := zfZ hz h hy
   have hzy : lkey z < lkey y := by unfold lkey; omega
   rcases Nat.eq_or_lt_of_le (Nat.le_of_lt_succ hij) with e | e
   · subst e; rw [hx] at hz'; cases hz'; exact hzy
   · have := zgP hz h e hx hz'; omega
 | i, 0, x, y, hij, hx, hy => by omega
theorem wt_mem : ∀ {l : List Load} {c o w : Int}, wtL l c o = w → 1 ≤ w → (⟨c, o, w⟩ : Load) ∈ l
 | [], _, _, w, h, hw => by simp [wtL] at h; omega
 | x :: l, c, o, w, h, hw => by
   unfold wtL at h
   split at h
   · rename_i k
     obtain ⟨k1, k2⟩ := k
     have : x = ⟨c, o, w⟩ := ld_eq k1 k2 h
     simp [this]
   · exact List.mem_cons_of_mem _ (wt_mem h hw)
theorem wt_of : ∀ {l : List Load} {x : Load}, l.Pairwise (fun a b => ¬ (a.cls = b.cls ∧ a.opt = b.opt)) → x ∈ l → wtL l x.cls x.opt = x.weight
 | [], x, _, h => by simp at h
 | y :: l, x, hp, h => by
   rw [List.pairwise_cons] at hp
   unfold wtL
   rcases List.mem_cons.1 h with rfl | h
   · rw [if_pos ⟨rfl, rfl⟩]
   · rw [if_neg fun k => hp.1 x h k]
     exact wt_of hp.2 h
theorem zov {α : Type} {l : List α} {R : α → α → Prop} (h : ∀ (i j : Nat) x y, i < j → l[i]? = some x → l[j]? = some y → R x y) : l.Pairwise R := by
 rw [List.pairwise_iff_getElem]
 intro i j hi hj hij
 exact h i j _ _ hij (List.getElem?_eq_getElem hi) (List.getElem?_eq_getElem hj)
section
variable {m : Model} {a b : Int}
theorem zlm (hz : qJ m) (hg : zdQ m) {c : Count} (hc : c ∈ m.counts) : c.loads.Pairwise fun x y => ¬ (x.cls = y.cls ∧ x.opt = y.opt) :=
 zov fun i j x y hij hx hy k => by
  have := zgP hz.2.1 (hg.2.2 c hc).2.2.2.2 hij hx hy
  unfold lkey at this; omega
theorem znB (hi : zdy m a b) {x y : Load} (hx : xV m x.cls x.opt) (hy : xV m y.cls y.opt) (hc : x.cls = y.cls) (h : zO m a b x = zO m a b y) : x.opt = y.opt := by
 obtain ⟨x1, x2, l, x3, x4⟩ := hx
 obtain ⟨y1, y2, l', y3, y4⟩ := hy
 rw [hc] at x3
 rw [x3] at y3; cases y3
 have e1 : zO m a b x = (imN l a b x.opt.toNat : Int) := by unfold zO; rw [hc, x3]
 have e2 : zO m a b y = (imN l a b y.opt.toNat : Int) := by unfold zO; rw [x3]
 rw [e1, e2] at h
 have := imN_inj (hi l (List.mem_of_getElem? x3)) (i := x.opt.toNat) (j := y.opt.toNat) (by omega) (by omega) (by omega)
 omega
theorem zli (hz : qJ m) (hg : zdQ m) (hi : zdy m a b) {c : Count} (hc : c ∈ m.counts) : (c.loads.map (zcz (zO m a b))).Nodup := by
 unfold List.Nodup
 rw [List.pairwise_map]
 have h2 : c.loads.Pairwise fun x y => (x ∈ c.loads ∧ y ∈ c.loads) ∧ ¬ (x.cls = y.cls ∧ x.opt = y.opt) :=
  zov fun i j x y hij hx hy => ⟨⟨List.mem_of_getElem? hx, List.mem_of_getElem? hy⟩, fun k => by
   have := zgP hz.2.1 (hg.2.2 c hc).2.2.2.2 hij hx hy
   unfold lkey at this; omega⟩
 refine h2.imp fun {x y} h e => h.2 ?_
 have e1 : x.cls = y.cls := by have := congrArg Load.cls e; exact this
 have e2 : zO m a b x = zO m a b y := by have := congrArg Load.opt e; exact this
 exact ⟨e1, znB hi (zck hg hc h.1.1).1 (zck hg hc h.1.2).1 e1 e2⟩
theorem imgd_iff (hz : qJ m) (hg : zdQ m) (hi : zdy m a b) {c d : Count} (hc : c ∈ m.counts) (hd : d ∈ m.counts) : imgd (zO m a b) c d ↔ zay (zO m a b) c = zay Load.opt d := by
 have hid : d.loads.map (zcz Load.opt) = d.loads := by
  have : (zcz Load.opt) = id := rfl
  rw [this, List.map_id]
 have hp : zay (zO m a b) c = zay Load.opt d ↔ c.rule = d.rule ∧ c.most = d.most ∧ c.penalty = d.penalty ∧ (c.loads.map (zcz (zO m a b))).Perm d.loads := by
  rw [← zlZ zjy, ← hid]
  unfold zay
  simp only [Count.mk.injEq, hid]
  grind
 rw [hp]
 unfold imgd
 constructor
 · rintro ⟨h1, h2, h3, h4, h5⟩
   refine ⟨h1, h2, h3, zhU (zli hz hg hi hc) (fun y hy => ?_) (by rw [List.length_map]; exact h4)⟩
   obtain ⟨x, hx, rfl⟩ := List.mem_map.1 hy
   obtain ⟨i, hi'⟩ := List.getElem?_of_mem hx
   exact wt_mem (h5 i x hi') (zck hg hc hx).2
 · rintro ⟨h1, h2, h3, h4⟩
   refine ⟨h1, h2, h3, by rw [← h4.length_eq, List.length_map], fun i x hx => ?_⟩
   have := wt_of (zlm hz hg hd) (h4.subset (List.mem_map_of_mem (f := zcz (zO m a b)) (List.mem_of_getElem? hx)))
   exact this
theorem zly : zg5 m a b ↔ (m.counts.map (zay (zO m a b))).Perm (m.counts.map (zay Load.opt)) := by
 unfold zg5 xH
 rw [zlZ totCt]
 exact ⟨List.Perm.symm, List.Perm.symm⟩
end
end Go.Proofs.YtihpjcmloecaaaaGreat.Cw
namespace Go.Proofs.YtihpjcmloecaaaaGreat.Cw
open Go Go.Cw Go.Proofs
set_option linter.unusedVariables false
set_option maxRecDepth 100000
set_option maxHeartbeats 16000000
def xM (b : Bool) : List PV := [.val (.bool b)]
theorem c_rSwap0 (m : Model) (a b : Int) (hl : Laid m) : zH Tryz.prog 14 [ag m.cells, zg .i64 a, zg .i64 b] (fun r => Leq r (.tup [.pv (.sl 1 ((exV m a b).map qg)), zo (pB (exP m a b))])) := by
 have hv := zje m hl
 by_cases hok : qx m = 0
 · rw [hok] at hv
   by_cases hab : a ≠ b ∧ 0 ≤ a ∧ 0 ≤ b
   · obtain ⟨hab1, hab2, hab3⟩ := hab
     have hz := qP hok
     have hg := zak hok
     have hld : ∀ c ∈ m.counts, c.loads.length ≤ 576 := fun c hc => zeB hz (hg.2.2 c hc).2.2.2.2
     obtain ⟨z1, z2, z3, z4, z5⟩ := id hz
     refine zh tok mixed 188 rfl (fn := Tryz.f14) (c := Tryz.f14.body.getD .skip) (by kernel_rfl) (by kernel_rfl) (by kernel_rfl) rfl 0 rfl ?_
     repeat' (first | refine o1 ?_ | refine o2 ?_ | refine k1 ?_ | refine k2 ?_ | refine k3 ?_ | refine k4 ?_ | refine k6 ?_ | refine And.intro ?_ ?_ | (intro h; first | exact Bool.noConfusion h | exact nz _ h | exact nl h | (simp at h; done) | (simp at h; first | (exfalso; omega) | skip) | skip) | (change zp _ _ _ _ _; refine zC rfl (by repeat' (first | trivial | refine And.intro ?_ ?_ | (show 0 + _ ≤ List.length _; simp))) zW.refl (hv) rfl ?_) | fail)
     all_goals first
      | (exfalso; omega)
      | skip
     refine zB (fun i : Nat => [(1, zg .i64 a), (2, zg .i64 b), (3, .ptr 0 4 0 0), (8, slP 1 1 (((m.classes.take i).map fun l => xC l a b l.length).map qg)), (9, zg .i64 i)])
      (fun i => [some ⟨29, 4, false, .box (pvs m.cells)⟩, obP 22 1 (((m.classes.take i).map fun l => xC l a b l.length).map qg)])
      (fun i => i ≤ m.classes.length ∧ ∀ j, j < i → ∀ l, m.classes[j]? = some l → zcX l a b) (fun i => m.classes.length - i) 0 ⟨Nat.zero_le _, fun j hj => by omega⟩ ?_ ?_
     · exact zJ [0, 1] rfl rfl (by repeat' (first | exact trivial | exact rfl | refine And.intro ?_ ?_)) (by repeat' (first | exact trivial | exact rfl | refine And.intro ?_ ?_))
     intro i ⟨hi, hall⟩
     rcases Nat.lt_or_ge i m.classes.length with hlt | hge
     · obtain ⟨l, hl'⟩ := qj hlt
       have hlm := List.mem_of_getElem? hl'
       have hln := z2 l hlm
       have htl : ((m.classes.take i).map fun l => xC l a b l.length).length ≤ 24 := by rw [List.length_map]; exact Nat.le_trans (List.length_take_le' ..) z1
       have hnx := znd (a := a) (b := b) hl'
       generalize hRS : ((m.classes.take i).map fun l => xC l a b l.length) = RS at *
       repeat' (first | (refine z6 ?_) | (refine zj (k := i) (zf hl') rfl ?_) | refine o1 ?_ | refine o2 ?_ | refine k1 ?_ | refine k2 ?_ | refine k3 ?_ | refine k4 ?_ | refine k6 ?_ | refine And.intro ?_ ?_ | (intro h; first | exact Bool.noConfusion h | exact nz _ h | exact nl h | (simp at h; done) | (simp at h; first | (exfalso; omega) | skip) | skip) | refine za ?_ | fail)
       refine zB (fun k : Nat => [(1, zg .i64 a), (2, zg .i64 b), (3, .ptr 0 4 0 0), (8, slP 1 1 (RS.map qg)), (9, zg .i64 i), (10, .pv (.sl 6 (l.map Opt.row))), (11, slP 2 1 ((xC l a b k).map qG)), (12, zg .i64 k)])
        (fun k => [some ⟨29, 4, false, .box (pvs m.cells)⟩, obP 22 1 (RS.map qg), obP 3 1 ((xC l a b k).map qG)])
        (fun k => k ≤ l.length ∧ ∀ j, j < k → okO l a b j) (fun k => l.length - k) 0 ⟨Nat.zero_le _, fun j hj => by omega⟩ ?_ ?_
       · exact zJ [0, 1, 2] rfl rfl (by repeat' (first | exact trivial | exact rfl | refine zu rfl ?_ | refine And.intro ?_ ?_)) (by repeat' (first | exact trivial | exact rfl | exact zG rfl | refine And.intro ?_ ?_))
       intro k ⟨hk, hka⟩
       rcases Nat.lt_or_ge k l.length with hkl | hkg
       · obtain ⟨o, ho⟩ := qj hkl
         have hil := imgs_len (l := l) (a := a) (b := b) (n := k)
         have hex := c_exch o.place.room a b
         have hmv := c_moved l k (zfA o.place.room a b) (by omega) hkl
         have hso := zbQ (a := a) (b := b) ho rfl
         generalize zfA o.place.room a b = R at *
         rw [← hso] at hmv
         rcases hj : zc3 l a b k with _ | j
         · have hno : ¬ exP m a b := fun h => zfe hkl (zld hj) (h.2.2.2.2.1 l hlm)
           rw [hj] at hmv
           repeat' (first | (refine z6 ?_) | (refine zj (k := k) (zf ho) rfl ?_) | refine o1 ?_ | refine o2 ?_ | refine k1 ?_ | refine k2 ?_ | refine k3 ?_ | refine k4 ?_ | refine k6 ?_ | refine k7 ?_ | refine And.intro ?_ ?_ | refine o3 ?_ | refine o4 ?_ | (intro h; first | exact Bool.noConfusion h | exact nz _ h | exact nl h | (simp at h; done) | (simp at h; first | (exfalso; omega) | skip) | skip) | (change zx _ _ _ _; refine zd rfl trivial ?_) | exact (by kernel_rfl : zn _ _ = true) | refine za ?_ | (change zp _ _ _ _ _; refine zC rfl (by repeat' (first | trivial | refine And.intro ?_ ?_ | (show 0 + _ ≤ List.length _; simp))) zW.refl (hex) rfl ?_) | (change zp _ _ _ _ _; refine zC rfl (by repeat' (first | trivial | refine And.intro ?_ ?_ | (show 0 + _ ≤ List.length _; simp))) zW.refl (hmv) rfl ?_) | fail)
           all_goals first
            | (exfalso; omega)
            | exact zfx hno
         · have hjl : j < l.length := by rw [hso] at hj; exact zmu hj
           obtain ⟨q, hq⟩ := qj hjl
           have hsc := c_sameCh o q (by have := zaE (hg.1 l hlm o (List.mem_of_getElem? ho)) z5.2; omega) (by have := zaE (hg.1 l hlm q (List.mem_of_getElem? hq)) z5.2; omega)
           rw [hj] at hmv
           by_cases hcc : o.charges = q.charges
           · have hsu := zaV hj
             rw [zaS hcc] at hsc
             repeat' (first | (refine xl ?_) | (refine z6 ?_) | (refine zj (k := k) (zf ho) rfl ?_) | (refine zj (k := j) (zf hq) rfl ?_) | ((refine zbB rfl rfl rfl rfl rfl rfl rfl rfl rfl rfl rfl (by rw [List.length_map]; omega) (by rw [List.length_map]; omega) ?_)) | refine o1 ?_ | refine o2 ?_ | refine k1 ?_ | refine k2 ?_ | refine k3 ?_ | refine k4 ?_ | refine k6 ?_ | refine And.intro ?_ ?_ | refine o3 ?_ | refine o4 ?_ | (intro h; first | exact Bool.noConfusion h | exact nz _ h | exact nl h | (simp at h; done) | (simp at h; first | (exfalso; omega) | skip) | skip) | exact (by kernel_rfl : zn _ _ = true) | refine za ?_ | refine zc (by omega) (by omega) ?_ | (change zp _ _ _ _ _; refine zC rfl (by repeat' (first | trivial | refine And.intro ?_ ?_ | (show 0 + _ ≤ List.length _; simp))) zW.refl (hex) rfl ?_) | (change zp _ _ _ _ _; refine zC rfl (by repeat' (first | trivial | refine And.intro ?_ ?_ | (show 0 + _ ≤ List.length _; simp))) zW.refl (hmv) rfl ?_) | (change zI _ _ _ _ _; refine zF rfl (by repeat' (first | trivial | refine And.intro ?_ ?_ | (show 0 + _ ≤ List.length _; simp))) zW.refl (hsc) rfl ?_) | fail)
             all_goals first
              | (refine ⟨k + 1, ⟨by omega, zz hka ⟨j, o, q, hj, ho, hq, hcc⟩⟩, by omega, ?_⟩
                 rw [hsu, zM, qn, qo]
                 exact zJ [0, 1, 4] rfl rfl (by repeat' (first | exact trivial | exact rfl | refine zu rfl ?_ | refine And.intro ?_ ?_)) (by repeat' (first | exact trivial | exact rfl | exact zG rfl | refine And.intro ?_ ?_)))
           · have hno : ¬ exP m a b := fun h => zfe hkl (ok_ne hj ho hq hcc) (h.2.2.2.2.1 l hlm)
             rw [zaj hcc] at hsc
             repeat' (first | (refine z6 ?_) | (refine zj (k := k) (zf ho) rfl ?_) | (refine zj (k := j) (zf hq) rfl ?_) | refine o1 ?_ | refine o2 ?_ | refine k1 ?_ | refine k2 ?_ | refine k3 ?_ | refine k4 ?_ | refine k6 ?_ | refine k7 ?_ | refine And.intro ?_ ?_ | refine o3 ?_ | refine o4 ?_ | (intro h; first | exact Bool.noConfusion h | exact nz _ h | exact nl h | (simp at h; done) | (simp at h; first | (exfalso; omega) | skip) | skip) | (change zx _ _ _ _; refine zd rfl trivial ?_) | exact (by kernel_rfl : zn _ _ = true) | refine za ?_ | (change zp _ _ _ _ _; refine zC rfl (by repeat' (first | trivial | refine And.intro ?_ ?_ | (show 0 + _ ≤ List.length _; simp))) zW.refl (hex) rfl ?_) | (change zp _ _ _ _ _; refine zC rfl (by repeat' (first | trivial | refine And.intro ?_ ?_ | (show 0 + _ ≤ List.length _; simp))) zW.refl (hmv) rfl ?_) | (change zI _ _ _ _ _; refine zF rfl (by repeat' (first | trivial | refine And.intro ?_ ?_ | (show 0 + _ ≤ List.length _; simp))) zW.refl (hsc) rfl ?_) | fail)
             all_goals first
              | exact zfx hno
       · obtain rfl : k = l.length := by omega
         have hp : zcX l a b := fun i hi => hka i hi
         have hlw : (xC l a b l.length).length ≤ 24 := by rw [zcj hp]; exact hln
         refine zq ?_
         refine qh (Γ' := [(1, zg .i64 a), (2, zg .i64 b), (3, .ptr 0 4 0 0), (8, slP 1 1 (RS.map qg)), (9, zg .i64 i), (10, .pv (.sl 6 (l.map Opt.row))), (11, .pv (.sl 1 ((xC l a b l.length).map qG))), (12, zg .i64 l.length)]) (H' := [some ⟨29, 4, false, .box (pvs m.cells)⟩, obP 22 1 (RS.map qg)]) (zD.sl (s := 11) (id := 2) rfl rfl fun H' hl hH => zJ [0, 1] rfl rfl (And.intro (hH 0 (by decide)) (zu (hH 1 (by decide)) trivial)) (by repeat' (first | exact trivial | exact rfl | exact zG rfl | refine And.intro ?_ ?_))) ?_
         repeat' (first | (refine xl ?_) | (refine z6 ?_) | ((refine zbB rfl rfl rfl rfl rfl rfl rfl rfl rfl rfl rfl (by rw [List.length_map]; omega) (by rw [List.length_map]; omega) ?_)) | refine o1 ?_ | refine o2 ?_ | refine k1 ?_ | refine k2 ?_ | refine k3 ?_ | refine k8 ?_ | refine And.intro ?_ ?_ | (intro h; first | exact Bool.noConfusion h | exact nz _ h | exact nl h | (simp at h; done) | (simp at h; first | (exfalso; omega) | skip) | skip) | refine za ?_ | refine zc (by omega) (by omega) ?_ | fail)
         refine ⟨i + 1, ⟨by omega, zz hall fun l0 h' => by rw [hl'] at h'; cases h'; exact hp⟩, by omega, ?_⟩
         rw [hnx, zM, qn, qo]
         exact zJ [0, 3] rfl rfl (by repeat' (first | exact trivial | exact rfl | refine And.intro ?_ ?_)) (by repeat' (first | exact trivial | exact rfl | refine And.intro ?_ ?_))
     · obtain rfl : i = m.classes.length := by omega
       rw [List.take_length]
       have hal : zdy m a b := fun l hl => by
        obtain ⟨j, hj⟩ := List.getElem?_of_mem hl
        exact hall j (List.getElem?_eq_some_iff.1 hj).1 l hj
       refine zq ?_
       change zU _ _ _ _ _ _ [_, _, _, (8, slP 1 1 ((xk m a b).map qg)), _] [_, obP _ 1 ((xk m a b).map qg)]
       refine qh (Γ' := [(3, .ptr 0 4 0 0), (8, .pv (.sl 1 ((xk m a b).map qg))), (9, zg .i64 m.classes.length)]) (H' := [some ⟨29, 4, false, .box (pvs m.cells)⟩]) (zD.sl (s := 8) (id := 1) rfl rfl fun H' hl hH => zJ [0] rfl rfl (And.intro (hH 0 (by decide)) trivial) (by repeat' (first | exact trivial | exact rfl | refine And.intro ?_ ?_))) ?_
       repeat' (first | refine o1 ?_ | refine o2 ?_ | refine k1 ?_ | refine k2 ?_ | refine k3 ?_ | refine k4 ?_ | refine k8 ?_ | refine And.intro ?_ ?_ | (intro h; first | exact Bool.noConfusion h | exact nz _ h | exact nl h | (simp at h; done) | (simp at h; first | (exfalso; omega) | skip) | skip) | refine za ?_ | fail)
       refine zB (fun i : Nat => [(3, .ptr 0 4 0 0), (8, .pv (.sl 1 ((xk m a b).map qg))), (14, zg .i64 i)])
        (fun i => [some ⟨29, 4, false, .box (pvs m.cells)⟩])
        (fun i => i ≤ m.pairs.length ∧ ∀ j, j < i → ∀ p, m.pairs[j]? = some p → zi9 m a b p) (fun i => m.pairs.length - i) 0 ⟨Nat.zero_le _, fun j hj => by omega⟩ (zJ [0] rfl rfl (by repeat' (first | exact trivial | exact rfl | refine And.intro ?_ ?_)) (by repeat' (first | exact trivial | exact rfl | refine And.intro ?_ ?_))) ?_
       intro i ⟨hi, hpa⟩
       rcases Nat.lt_or_ge i m.pairs.length with hlt | hge2
       · obtain ⟨p, hp⟩ := qj hlt
         have hpp := (hg.2.1 i hlt p hp).1
         obtain ⟨q1, q2, q3, ⟨x, y, hx, hy, q4⟩, q5⟩ := id hpp
         have hxa := hal x (List.mem_of_getElem? hx)
         have hya := hal y (List.mem_of_getElem? hy)
         have hxl := z2 x (List.mem_of_getElem? hx)
         have hyl := z2 y (List.mem_of_getElem? hy)
         have hxw := zcj hxa
         have hyw := zcj hya
         have hax := zii (a := a) (b := b) hx
         have hay := zii (a := a) (b := b) hy
         have hix := fun i hi => zff hxa (i := i) hi
         have hiy := fun i hi => zff hya (i := i) hi
         generalize xC x a b x.length = IX at hxw hax hix
         generalize xC y a b y.length = IY at hyw hay hiy
         obtain ⟨p1, p2, p3, p4⟩ := p
         dsimp only at q2 q3 hx hy hax hay
         have hk1 : p1 = (p1.toNat : Int) := by omega
         have hk2 : p2 = (p2.toNat : Int) := by omega
         repeat' (first | (refine zj (k := i) (zf hp) rfl ?_) | (refine zj (k := p1.toNat) (zf hax) hk1 ?_) | (refine zj (k := p2.toNat) (zf hay) hk2 ?_) | refine o1 ?_ | refine o2 ?_ | refine k1 ?_ | refine k2 ?_ | refine k3 ?_ | refine k4 ?_ | refine k6 ?_ | refine And.intro ?_ ?_ | refine o3 ?_ | refine o4 ?_ | (intro h; first | exact Bool.noConfusion h | exact nz _ h | exact nl h | (simp at h; done) | (simp at h; first | (exfalso; omega) | skip) | skip) | exact (by kernel_rfl : zn _ _ = true) | refine za ?_ | fail)
         refine zB (fun u : Nat => [(3, .ptr 0 4 0 0), (8, .pv (.sl 1 ((xk m a b).map qg))), (14, zg .i64 i), (15, .ptr 1 4 0 0), (16, .pv (.sl 1 (IX.map qG))), (17, .pv (.sl 1 (IY.map qG))), (18, zg .i64 u)])
          (fun u => [some ⟨29, 4, false, .box (pvs m.cells)⟩, some ⟨72, 4, false, .box (pvs (Pair.row ⟨p1, p2, p3, p4⟩))⟩])
          (fun u => u ≤ x.length ∧ ∀ j, j < u → ∀ k, k < y.length → zh9 m ⟨p1, p2, p3, p4⟩ j k = zh9 m ⟨p1, p2, p3, p4⟩ (imN x a b j) (imN y a b k)) (fun u => x.length - u) 0 ⟨Nat.zero_le _, fun j hj => by omega⟩ (zJ [0, 1] rfl rfl (by repeat' (first | exact trivial | exact rfl | refine And.intro ?_ ?_)) (by repeat' (first | exact trivial | exact rfl | refine And.intro ?_ ?_))) ?_
         intro u ⟨hu, hua⟩
         rcases Nat.lt_or_ge u x.length with hul | hug
         · repeat' (first | refine o1 ?_ | refine o2 ?_ | refine k1 ?_ | refine k2 ?_ | refine k3 ?_ | refine k4 ?_ | refine k6 ?_ | refine And.intro ?_ ?_ | (intro h; first | exact Bool.noConfusion h | exact nz _ h | exact nl h | (simp at h; done) | (simp at h; first | (exfalso; omega) | skip) | skip) | refine za ?_ | fail)
           refine zB (fun k : Nat => [(3, .ptr 0 4 0 0), (8, .pv (.sl 1 ((xk m a b).map qg))), (14, zg .i64 i), (15, .ptr 1 4 0 0), (16, .pv (.sl 1 (IX.map qG))), (17, .pv (.sl 1 (IY.map qG))), (18, zg .i64 u), (19, zg .i64 k)])
            (fun k => [some ⟨29, 4, false, .box (pvs m.cells)⟩, some ⟨72, 4, false, .box (pvs (Pair.row ⟨p1, p2, p3, p4⟩))⟩])
            (fun k => k ≤ y.length ∧ ∀ j, j < k → zh9 m ⟨p1, p2, p3, p4⟩ u j = zh9 m ⟨p1, p2, p3, p4⟩ (imN x a b u) (imN y a b j)) (fun k => y.length - k) 0 ⟨Nat.zero_le _, fun j hj => by omega⟩ (zJ [0, 1] rfl rfl (by repeat' (first | exact trivial | exact rfl | refine And.intro ?_ ?_)) (by repeat' (first | exact trivial | exact rfl | refine And.intro ?_ ?_))) ?_
           intro k ⟨hk, hka⟩
           rcases Nat.lt_or_ge k y.length with hkl | hkg
           · obtain ⟨-, hju⟩ := zdh (hxa u hul)
             obtain ⟨-, hjk⟩ := zdh (hya k hkl)
             have hE1 := zmX m ⟨p1, p2, p3, p4⟩ u k y _ (by show 0 ≤ p2; omega) hy (by omega) (by omega) (by omega) (zi8 hx hy hpp hul hkl)
             have hE2 := zmX m ⟨p1, p2, p3, p4⟩ (imN x a b u) (imN y a b k) y _ (by show 0 ≤ p2; omega) hy (by omega) (by omega) (by omega) (zi8 hx hy hpp hju hjk)
             have hne : ¬ zh9 m ⟨p1, p2, p3, p4⟩ u k = zh9 m ⟨p1, p2, p3, p4⟩ (imN x a b u) (imN y a b k) → ¬ exP m a b := fun h h2 => h (h2.2.2.2.2.2.1 _ (List.mem_of_getElem? hp) x y hx hy u hul k hkl)
             have hiu := hix u hul
             have hik := hiy k hkl
             generalize hZ1 : zh9 m ⟨p1, p2, p3, p4⟩ u k = Z1 at *
             generalize hZ2 : zh9 m ⟨p1, p2, p3, p4⟩ (imN x a b u) (imN y a b k) = Z2 at *
             generalize hIU : imN x a b u = IU at *
             generalize hIK : imN y a b k = IK at *
             repeat' (first | (refine zj (k := u) (zf hiu) rfl ?_) | (refine zj (k := k) (zf hik) rfl ?_) | refine o1 ?_ | refine o2 ?_ | refine k1 ?_ | refine k2 ?_ | refine k3 ?_ | refine k4 ?_ | refine k6 ?_ | refine k7 ?_ | refine And.intro ?_ ?_ | refine o3 ?_ | refine o4 ?_ | (intro h; first | exact Bool.noConfusion h | exact nz _ h | exact nl h | (simp at h; done) | (simp at h; first | (exfalso; omega) | skip) | skip) | (change zx _ _ _ _; refine zd rfl trivial ?_) | exact (by kernel_rfl : zn _ _ = true) | refine za ?_ | refine zc (by omega) (by omega) ?_ | (change zI _ _ _ _ _; refine zF rfl (by repeat' (first | trivial | refine And.intro ?_ ?_ | (show 0 + _ ≤ List.length _; simp))) zW.refl (hE1) rfl ?_) | (change zI _ _ _ _ _; refine zF rfl (by repeat' (first | trivial | refine And.intro ?_ ?_ | (show 0 + _ ≤ List.length _; simp))) zW.refl (hE2) rfl ?_) | fail)
             all_goals first
              | exact zfx (hne (by assumption))
              | exact ⟨k + 1, ⟨by omega, zz hka (by rw [hZ1, hIK, hZ2]; first | assumption | (exact Classical.not_not.1 (by assumption)))⟩, by omega, zJ [0, 1] rfl rfl (by repeat' (first | exact trivial | exact rfl | refine And.intro ?_ ?_)) (by repeat' (first | exact trivial | exact rfl | refine And.intro ?_ ?_))⟩
           · obtain rfl : k = y.length := by omega
             repeat' (first | refine o1 ?_ | refine o2 ?_ | refine k1 ?_ | refine k2 ?_ | refine k3 ?_ | refine k8 ?_ | refine And.intro ?_ ?_ | (intro h; first | exact Bool.noConfusion h | exact nz _ h | exact nl h | (simp at h; done) | (simp at h; first | (exfalso; omega) | skip) | skip) | refine za ?_ | refine zc (by omega) (by omega) ?_ | fail)
             exact ⟨u + 1, ⟨by omega, zz hua fun j hj => hka j hj⟩, by omega, zJ [0, 1] rfl rfl (by repeat' (first | exact trivial | exact rfl | refine And.intro ?_ ?_)) (by repeat' (first | exact trivial | exact rfl | refine And.intro ?_ ?_))⟩
         · obtain rfl : u = x.length := by omega
           repeat' (first | refine o1 ?_ | refine o2 ?_ | refine k1 ?_ | refine k2 ?_ | refine k3 ?_ | refine k8 ?_ | refine And.intro ?_ ?_ | (intro h; first | exact Bool.noConfusion h | exact nz _ h | exact nl h | (simp at h; done) | (simp at h; first | (exfalso; omega) | skip) | skip) | refine za ?_ | refine zc (by omega) (by omega) ?_ | fail)
           exact ⟨i + 1, ⟨by omega, zz hpa fun p' h' x' y' hx' hy' j hj k hk => by
            rw [hp] at h'; cases h'
            dsimp only at hx' hy'
            rw [hx] at hx'; cases hx'
            rw [hy] at hy'; cases hy'
            exact hua j hj k hk⟩, by omega, zJ [0] rfl rfl (by repeat' (first | exact trivial | exact rfl | refine And.intro ?_ ?_)) (by repeat' (first | exact trivial | exact rfl | refine And.intro ?_ ?_))⟩
       · obtain rfl : i = m.pairs.length := by omega
         have hes : ∀ p ∈ m.pairs, zi9 m a b p := fun p hp => by
          obtain ⟨j, hj⟩ := List.getElem?_of_mem hp
          exact hpa j (List.getElem?_eq_some_iff.1 hj).1 p hj
         have hcm := fun (c d : Count) (hc : c ∈ m.counts) (hd : d ∈ m.counts) => imgd_iff hz hg hal hc hd
         have hxi : ∀ {i : Nat} {c : Count}, m.counts[i]? = some c → (m.counts.map (zay (zO m a b)))[i]? = some (zay (zO m a b) c) := fun h => zf h
         have hyi : ∀ {i : Nat} {c : Count}, m.counts[i]? = some c → (m.counts.map (zay Load.opt))[i]? = some (zay Load.opt c) := fun h => zf h
         have hxl : (m.counts.map (zay (zO m a b))).length = m.counts.length := List.length_map _
         have hyl : (m.counts.map (zay Load.opt)).length = m.counts.length := List.length_map _
         have hcx : (m.counts.map (zay (zO m a b))).Perm (m.counts.map (zay Load.opt)) ↔ exP m a b := ⟨fun h => ⟨hok, hab1, hab2, hab3, hal, hes, zly.2 h⟩, fun h => zly.1 h.2.2.2.2.2.2⟩
         have hst := Grd.start (xs := m.counts.map (zay (zO m a b))) (ys := m.counts.map (zay Load.opt))
         rw [hyl] at hst
         repeat' (first | (refine ⟨m.counts.length, m.counts.length, rfl, rfl, Nat.le_refl _, (by omega), (by omega), ?_⟩) | (refine zi ((List.replicate m.counts.length false).map xM) (by rw [List.map_replicate]; rfl) ?_) | refine o1 ?_ | refine o2 ?_ | refine k1 ?_ | refine k2 ?_ | refine k3 ?_ | refine k4 ?_ | refine k8 ?_ | refine And.intro ?_ ?_ | (intro h; first | exact Bool.noConfusion h | exact nz _ h | exact nl h | (simp at h; done) | (simp at h; first | (exfalso; omega) | skip) | skip) | exact (by kernel_rfl : zn _ _ = true) | refine za ?_ | fail)
         refine zB (fun x : Nat × List Bool => [(3, .ptr 0 4 0 0), (8, .pv (.sl 1 ((xk m a b).map qg))), (20, .ms 1 1 0 m.counts.length), (21, zg .i64 x.1)])
          (fun x => [some ⟨29, 4, false, .box (pvs m.cells)⟩, some ⟨4, 1, false, .p (x.2.map xM)⟩])
          (fun x => x.1 ≤ m.counts.length ∧ Grd (m.counts.map (zay (zO m a b))) (m.counts.map (zay Load.opt)) x.1 x.2) (fun x => m.counts.length - x.1) (0, List.replicate m.counts.length false) ⟨Nat.zero_le _, hst⟩ (zJ [0, 1] rfl rfl (by repeat' (first | exact trivial | exact rfl | refine And.intro ?_ ?_)) (by repeat' (first | exact trivial | exact rfl | refine And.intro ?_ ?_))) ?_
         rintro ⟨i, T⟩ ⟨hi, hG⟩
         dsimp only at hi hG ⊢
         have hTl : T.length = m.counts.length := by rw [hG.len, hyl]
         rcases Nat.lt_or_ge i m.counts.length with hlt | hge3
         · obtain ⟨c, hc⟩ := qj hlt
           have hcmem := List.mem_of_getElem? hc
           repeat' (first | refine o1 ?_ | refine o2 ?_ | refine k1 ?_ | refine k2 ?_ | refine k3 ?_ | refine k4 ?_ | refine k6 ?_ | refine And.intro ?_ ?_ | (intro h; first | exact Bool.noConfusion h | exact nz _ h | exact nl h | (simp at h; done) | (simp at h; first | (exfalso; omega) | skip) | skip) | refine za ?_ | fail)
           refine zB (fun k : Nat => [(3, .ptr 0 4 0 0), (8, .pv (.sl 1 ((xk m a b).map qg))), (20, .ms 1 1 0 m.counts.length), (21, zg .i64 i), (22, zg .i64 k)])
            (fun k => [some ⟨29, 4, false, .box (pvs m.cells)⟩, some ⟨4, 1, false, .p (T.map xM)⟩])
            (fun k => k ≤ m.counts.length ∧ ∀ j, j < k → T[j]? = some false → (m.counts.map (zay Load.opt))[j]? ≠ some (zay (zO m a b) c)) (fun k => m.counts.length - k) 0 ⟨Nat.zero_le _, fun j hj => by omega⟩ (zJ [0, 1] rfl rfl (by repeat' (first | exact trivial | exact rfl | refine And.intro ?_ ?_)) (by repeat' (first | exact trivial | exact rfl | refine And.intro ?_ ?_))) ?_
           intro k ⟨hk, hka⟩
           rcases Nat.lt_or_ge k m.counts.length with hkl | hkg
           · obtain ⟨d, hd⟩ := qj hkl
             have hdmem := List.mem_of_getElem? hd
             obtain ⟨t, ht⟩ := qj (show k < T.length by omega)
             have htr : (T.map xM)[k]? = some (xM t) := zf ht
             cases t
             · have him := c_imaged c d (xk m a b) (zO m a b) (by have := hld c hcmem; omega) (by have := hld d hdmem; omega) (fun x hx => by
                obtain ⟨g1, g2, l, g3, g4⟩ := (zck hg hcmem hx).1
                exact ⟨g1, g2, _, _, zii g3, zff (hal l (List.mem_of_getElem? g3)) (by omega), by unfold zO; rw [g3]⟩)
               by_cases hcd : imgd (zO m a b) c d
               · have hnx := hG.next (hxi hc) ht ((hyi hd).trans (congrArg some ((hcm c d hcmem hdmem).1 hcd).symm))
                 have hsr : (T.map xM).set k [.val (.bool true)] = (T.set k true).map xM := by rw [List.map_set]; rfl
                 rw [zaS hcd] at him
                 repeat' (first | (refine qp k rfl hkl ?_) | (refine ⟨_, htr, ?_⟩) | (refine zj (k := i) (zf hc) rfl ?_) | (refine zj (k := k) (zf hd) rfl ?_) | (refine zi _ hsr ?_) | refine o1 ?_ | refine o2 ?_ | refine k1 ?_ | refine k2 ?_ | refine k3 ?_ | refine k6 ?_ | refine k8 ?_ | refine And.intro ?_ ?_ | refine o3 ?_ | refine o4 ?_ | (intro h; first | exact Bool.noConfusion h | exact nz _ h | exact nl h | (simp at h; done) | (simp at h; first | (exfalso; omega) | skip) | skip) | exact Nat.le_of_ble_eq_true rfl | exact (by kernel_rfl : zn _ _ = true) | refine zL ?_ | refine zc (by omega) (by omega) ?_ | (change zI _ _ _ _ _; refine zF rfl (by repeat' (first | trivial | refine And.intro ?_ ?_ | (show 0 + _ ≤ List.length _; simp))) zW.refl (him) rfl ?_) | fail)
                 all_goals first
                  | exact ⟨(i + 1, T.set k true), ⟨by dsimp only; omega, hnx⟩, by dsimp only; omega, zJ [0, 1] rfl rfl (by repeat' (first | exact trivial | exact rfl | refine And.intro ?_ ?_)) (by repeat' (first | exact trivial | exact rfl | refine And.intro ?_ ?_))⟩
                  | (exfalso; omega)
               · rw [zaj hcd] at him
                 repeat' (first | (refine qp k rfl hkl ?_) | (refine ⟨_, htr, ?_⟩) | (refine zj (k := i) (zf hc) rfl ?_) | (refine zj (k := k) (zf hd) rfl ?_) | refine o1 ?_ | refine o2 ?_ | refine k1 ?_ | refine k2 ?_ | refine k3 ?_ | refine k4 ?_ | refine k6 ?_ | refine And.intro ?_ ?_ | refine o3 ?_ | refine o4 ?_ | (intro h; first | exact Bool.noConfusion h | exact nz _ h | exact nl h | (simp at h; done) | (simp at h; first | (exfalso; omega) | skip) | skip) | exact (by kernel_rfl : zn _ _ = true) | refine zL ?_ | refine zc (by omega) (by omega) ?_ | (change zI _ _ _ _ _; refine zF rfl (by repeat' (first | trivial | refine And.intro ?_ ?_ | (show 0 + _ ≤ List.length _; simp))) zW.refl (him) rfl ?_) | fail)
                 exact ⟨k + 1, ⟨by omega, zz hka fun _ e => hcd ((hcm c d hcmem hdmem).2 (Option.some.inj ((hyi hd).symm.trans e)).symm)⟩, by omega, zJ [0, 1] rfl rfl (by repeat' (first | exact trivial | exact rfl | refine And.intro ?_ ?_)) (by repeat' (first | exact trivial | exact rfl | refine And.intro ?_ ?_))⟩
             · repeat' (first | (refine qp k rfl hkl ?_) | (refine ⟨_, htr, ?_⟩) | refine o1 ?_ | refine o2 ?_ | refine k1 ?_ | refine k2 ?_ | refine k3 ?_ | refine k4 ?_ | refine k6 ?_ | refine And.intro ?_ ?_ | refine o3 ?_ | refine o4 ?_ | (intro h; first | exact Bool.noConfusion h | exact nz _ h | exact nl h | (simp at h; done) | (simp at h; first | (exfalso; omega) | skip) | skip) | exact (by kernel_rfl : zn _ _ = true) | refine zL ?_ | refine zc (by omega) (by omega) ?_ | fail)
               exact ⟨k + 1, ⟨by omega, zz hka fun e => by rw [ht] at e; cases e⟩, by omega, zJ [0, 1] rfl rfl (by repeat' (first | exact trivial | exact rfl | refine And.intro ?_ ?_)) (by repeat' (first | exact trivial | exact rfl | refine And.intro ?_ ?_))⟩
           · obtain rfl : k = m.counts.length := by omega
             have hno : ¬ exP m a b := fun h => hG.stop (hxi hc) (fun k hk hy => hka k (by have := (List.getElem?_eq_some_iff.1 hk).1; omega) hk hy) (hcx.2 h)
             repeat' (first | refine o1 ?_ | refine o2 ?_ | refine k1 ?_ | refine k2 ?_ | refine k3 ?_ | refine k7 ?_ | refine k8 ?_ | refine And.intro ?_ ?_ | refine o3 ?_ | refine o4 ?_ | (intro h; first | exact Bool.noConfusion h | exact nz _ h | exact nl h | (simp at h; done) | (simp at h; first | (exfalso; omega) | skip) | skip) | (change zx _ _ _ _; refine zd rfl trivial ?_) | exact (by kernel_rfl : zn _ _ = true) | fail)
             all_goals first
              | exact zfx hno
              | (exfalso; omega)
         · obtain rfl : i = m.counts.length := by omega
           rw [← hxl] at hG
           have hP := hcx.1 (hG.all (hxl.trans hyl.symm))
           repeat' (first | refine o1 ?_ | refine o2 ?_ | refine k1 ?_ | refine k2 ?_ | refine k3 ?_ | refine k7 ?_ | refine k8 ?_ | refine And.intro ?_ ?_ | (intro h; first | exact Bool.noConfusion h | exact nz _ h | exact nl h | (simp at h; done) | (simp at h; first | (exfalso; omega) | skip) | skip) | (change zx _ _ _ _; refine zd rfl trivial ?_) | refine za ?_ | fail)
           rw [zaS hP]
           unfold exV
           rw [if_pos (zaS hP)]
           exact ⟨ALe.refl⟩
   · have hno : ¬ exP m a b := fun h => hab ⟨h.2.1, h.2.2.1, h.2.2.2.1⟩
     refine zh tok mixed 188 rfl (fn := Tryz.f14) (c := Tryz.f14.body.getD .skip) (by kernel_rfl) (by kernel_rfl) (by kernel_rfl) rfl 0 rfl ?_
     repeat' (first | refine o1 ?_ | refine o2 ?_ | refine k1 ?_ | refine k2 ?_ | refine k3 ?_ | refine k7 ?_ | refine And.intro ?_ ?_ | (intro h; first | exact Bool.noConfusion h | exact nz _ h | exact nl h | (simp at h; done) | (simp at h; first | (exfalso; omega) | skip) | skip) | (change zx _ _ _ _; refine zd rfl trivial ?_) | (change zp _ _ _ _ _; refine zC rfl (by repeat' (first | trivial | refine And.intro ?_ ?_ | (show 0 + _ ≤ List.length _; simp))) zW.refl (hv) rfl ?_) | fail)
     all_goals first
      | (exfalso; omega)
      | exact zfx hno
      | (exfalso; exact hab ⟨by assumption, by omega, by omega⟩)
 · have hno : ¬ exP m a b := fun h => hok h.1
   generalize qx m = E at hv hok
   refine zh tok mixed 188 rfl (fn := Tryz.f14) (c := Tryz.f14.body.getD .skip) (by kernel_rfl) (by kernel_rfl) (by kernel_rfl) rfl 0 rfl ?_
   repeat' (first | refine o1 ?_ | refine o2 ?_ | refine k1 ?_ | refine k2 ?_ | refine k3 ?_ | refine k7 ?_ | refine And.intro ?_ ?_ | (intro h; first | exact Bool.noConfusion h | exact nz _ h | exact nl h | (simp at h; done) | (simp at h; first | (exfalso; omega) | skip) | skip) | (change zx _ _ _ _; refine zd rfl trivial ?_) | (change zp _ _ _ _ _; refine zC rfl (by repeat' (first | trivial | refine And.intro ?_ ?_ | (show 0 + _ ≤ List.length _; simp))) zW.refl (hv) rfl ?_) | fail)
   all_goals first
    | (exfalso; omega)
    | exact zfx hno
theorem c_rSwap (m : Model) (a b : Int) (hl : Laid m) : zH Tryz.prog 14 [ag m.cells, zg .i64 a, zg .i64 b] (fun r => r = .tup [.pv (.sl 1 ((exV m a b).map qg)), zo (pB (exP m a b))]) :=
 (c_rSwap0 m a b hl).weak fun r k => ⟨_, k.le, rfl⟩
end Go.Proofs.YtihpjcmloecaaaaGreat.Cw
namespace Go.Proofs.YtihpjcmloecaaaaGreat.Cw
open Go Go.Cw Go.Proofs
set_option linter.unusedVariables false
set_option maxRecDepth 100000
set_option maxHeartbeats 8000000
def zbA (l : List Opt) : List Int := (l.map fun o => o.place.room).filter fun r => decide (0 ≤ r)
def xd (c : List (List Opt)) : List Int := c.flatMap zbA
def zS (m : Model) : List Int := qW (zbS (xd m.classes))
theorem roomL_t {l : List Opt} {k : Nat} {o : Opt} (h : l[k]? = some o) (hr : 0 ≤ o.place.room) : zbA (l.take (k + 1)) = zbA (l.take k) ++ [o.place.room] := by
 unfold zbA; rw [xS h, List.map_append, List.filter_append]; simp [hr]
theorem roomL_f {l : List Opt} {k : Nat} {o : Opt} (h : l[k]? = some o) (hr : ¬ 0 ≤ o.place.room) : zbA (l.take (k + 1)) = zbA (l.take k) := by
 unfold zbA; rw [xS h, List.map_append, List.filter_append]; simp; omega
theorem zk5 {c : List (List Opt)} {i : Nat} {l : List Opt} (h : c[i]? = some l) : xd (c.take (i + 1)) = xd (c.take i) ++ zbA l := by
 unfold xd; rw [xS h, List.flatMap_append]; simp
theorem zjJ {l : List Opt} : (zbA l).length ≤ l.length := by
 unfold zbA
 have := List.length_filter_le (fun r => decide ((0 : Int) ≤ r)) (l.map fun o => o.place.room)
 rwa [List.length_map] at this
theorem zhO {c : List (List Opt)} (h : ∀ l ∈ c, l.length ≤ 24) : (xd c).length ≤ c.length * 24 := by
 induction c with
 | nil => simp [xd]
 | cons l c ih =>
   have h1 := ih fun x hx => h x (by simp [hx])
   have h2 := h l (by simp)
   have h3 := zjJ (l := l)
   have e : xd (l :: c) = zbA l ++ xd c := rfl
   rw [e, List.length_append, List.length_cons]
   omega
theorem sl_ne {id z : Nat} {α : Type} {f : α → List PV} {L : List α} (h : L ≠ []) {n : Nat} (hn : L.length = n) : slP id z (L.map f) = .ms id z 0 n := by
 subst hn
 cases L with
 | nil => exact absurd rfl h
 | cons a l => simp [slP]
theorem ob_ne {ty z : Nat} {α : Type} {f : α → List PV} {L : List α} (h : L ≠ []) : obP ty z (L.map f) = some ⟨ty, z, false, .p (L.map f)⟩ := by
 cases L with
 | nil => exact absurd rfl h
 | cons a l => rfl
theorem znS (m : Model) (hz : qJ m) : zH Tryz.prog 41 [ag m.cells] (fun r => Leq r (.pv (.sl 1 ((zS m).map zr)))) := by
 obtain ⟨z1, z2, z3, z4, z5⟩ := hz
 have hRl : ∀ i, (xd (m.classes.take i)).length ≤ 576 := fun i => by
  have h1 := zhO (c := m.classes.take i) fun l hl => z2 l (List.mem_of_mem_take hl)
  have h2 : (m.classes.take i).length ≤ 24 := Nat.le_trans (List.length_take_le' ..) z1
  omega
 refine zh tok mixed 37 rfl (fn := Tryz.f41) (c := Tryz.f41.body.getD .skip) (by kernel_rfl) (by kernel_rfl) (by kernel_rfl) rfl 0 rfl ?_
 repeat' (first | refine o1 ?_ | refine o2 ?_ | refine k1 ?_ | refine k2 ?_ | refine k4 ?_ | refine za ?_ | fail)
 refine zB (fun i : Nat => [(3, slP 1 1 ((xd (m.classes.take i)).map zr)), (9, .pv (.sl 1 (m.classes.map zA))), (10, zg .i64 m.classes.length), (11, zg .i64 i)])
  (fun i => [none, obP 3 1 ((xd (m.classes.take i)).map zr)])
  (fun i => i ≤ m.classes.length) (fun i => m.classes.length - i) 0 (Nat.zero_le _) ?_ ?_
 · exact zJ [0, 1] rfl rfl (by repeat' (first | exact trivial)) (by repeat' (first | exact trivial | exact rfl | refine And.intro ?_ ?_))
 intro i hi
 rcases Nat.lt_or_ge i m.classes.length with hlt | hge
 · obtain ⟨l, hl⟩ := qj hlt
   have hln := z2 l (List.mem_of_getElem? hl)
   have hnx := zk5 hl
   have hR := hRl i
   generalize xd (m.classes.take i) = RS at *
   repeat' (first | (refine z6 ?_) | (refine zj (k := i) (zf hl) rfl ?_) | refine o1 ?_ | refine o2 ?_ | refine k1 ?_ | refine k2 ?_ | refine k3 ?_ | refine k4 ?_ | refine k6 ?_ | refine And.intro ?_ ?_ | (intro h; first | exact Bool.noConfusion h | exact nz _ h | exact nl h | (simp at h; done) | (simp at h; first | (exfalso; omega) | skip) | skip) | refine za ?_ | fail)
   refine zB (fun k : Nat => [(3, slP 1 1 ((RS ++ zbA (l.take k)).map zr)), (9, .pv (.sl 1 (m.classes.map zA))), (10, zg .i64 m.classes.length), (11, zg .i64 i), (15, .pv (.sl 6 (l.map Opt.row))), (16, zg .i64 l.length), (17, zg .i64 k)])
    (fun k => [none, obP 3 1 ((RS ++ zbA (l.take k)).map zr)])
    (fun k => k ≤ l.length) (fun k => l.length - k) 0 (Nat.zero_le _) ?_ ?_
   · rw [show RS ++ zbA (l.take 0) = RS by simp [zbA]]
     exact zJ [0, 1] rfl rfl (by repeat' (first | exact trivial | refine zu rfl ?_)) (by repeat' (first | exact trivial | exact rfl | exact zG rfl | refine And.intro ?_ ?_))
   intro k hk
   rcases Nat.lt_or_ge k l.length with hkl | hkg
   · obtain ⟨o, ho⟩ := qj hkl
     have hk2 : (RS ++ zbA (l.take k)).length ≤ 600 := by
      have := zjJ (l := l.take k)
      have h3 : (l.take k).length ≤ 24 := Nat.le_trans (List.length_take_le' ..) hln
      rw [List.length_append]; omega
     by_cases hr : 0 ≤ o.place.room
     · have hrs : RS ++ zbA (l.take (k + 1)) = (RS ++ zbA (l.take k)) ++ [o.place.room] := by rw [roomL_t ho hr, List.append_assoc]
       generalize RS ++ zbA (l.take k) = KS at *
       repeat' (first | (refine xl ?_) | (refine z6 ?_) | (refine zj (k := k) (zf ho) rfl ?_) | ((refine zbB rfl rfl rfl rfl rfl rfl rfl rfl rfl rfl rfl (by rw [List.length_map]; omega) (by rw [List.length_map]; omega) ?_)) | refine o1 ?_ | refine o2 ?_ | refine k1 ?_ | refine k2 ?_ | refine k3 ?_ | refine k4 ?_ | refine k6 ?_ | refine And.intro ?_ ?_ | (intro h; first | exact Bool.noConfusion h | exact nz _ h | exact nl h | (simp at h; done) | (simp at h; first | (exfalso; omega) | skip) | skip) | exact (by kernel_rfl : zn _ _ = true) | refine zc (by omega) (by omega) ?_ | fail)
       all_goals first
        | (exfalso; omega)
        | (refine ⟨k + 1, by omega, by omega, ?_⟩
           rw [hrs, zM, qn, qo]
           exact zJ [0, 4] rfl rfl (by repeat' (first | exact trivial | exact rfl | refine And.intro ?_ ?_)) (by repeat' (first | exact trivial | exact rfl | refine And.intro ?_ ?_)))
     · have hrs : RS ++ zbA (l.take (k + 1)) = RS ++ zbA (l.take k) := by rw [roomL_f ho hr]
       repeat' (first | (refine z6 ?_) | (refine zj (k := k) (zf ho) rfl ?_) | refine o1 ?_ | refine o2 ?_ | refine k1 ?_ | refine k2 ?_ | refine k3 ?_ | refine k4 ?_ | refine k6 ?_ | refine And.intro ?_ ?_ | (intro h; first | exact Bool.noConfusion h | exact nz _ h | exact nl h | (simp at h; done) | (simp at h; first | (exfalso; omega) | skip) | skip) | exact (by kernel_rfl : zn _ _ = true) | refine zc (by omega) (by omega) ?_ | fail)
       all_goals first
        | (exfalso; omega)
        | (refine ⟨k + 1, by omega, by omega, ?_⟩
           rw [hrs]
           exact zJ [0, 1] rfl rfl (by repeat' (first | exact trivial | refine zu rfl ?_)) (by repeat' (first | exact trivial | exact rfl | exact zG rfl | refine And.intro ?_ ?_)))
   · obtain rfl : k = l.length := by omega
     rw [List.take_length, ← hnx]
     repeat' (first | (refine z6 ?_) | refine o1 ?_ | refine o2 ?_ | refine k1 ?_ | refine k2 ?_ | refine k3 ?_ | refine k8 ?_ | refine And.intro ?_ ?_ | (intro h; first | exact Bool.noConfusion h | exact nz _ h | exact nl h | (simp at h; done) | (simp at h; first | (exfalso; omega) | skip) | skip) | refine zc (by omega) (by omega) ?_ | fail)
     exact ⟨i + 1, by omega, by omega, zJ [0, 1] rfl rfl (by repeat' (first | exact trivial | refine zu rfl ?_)) (by repeat' (first | exact trivial | exact rfl | exact zG rfl | refine And.intro ?_ ?_))⟩
 · obtain rfl : i = m.classes.length := by omega
   have hR := hRl m.classes.length
   rw [List.take_length] at hR ⊢
   by_cases hne : xd m.classes = []
   · have e : zS m = [] := by
      have h1 := zdu (zbS (xd m.classes))
      rw [zb3, hne] at h1
      unfold zS; rw [hne]; exact List.eq_nil_of_length_eq_zero (Nat.le_zero.1 h1)
     rw [hne, e]
     repeat' (first | (refine z6 ?_) | refine o1 ?_ | refine o2 ?_ | refine k1 ?_ | refine k2 ?_ | refine k3 ?_ | refine k7 ?_ | refine k8 ?_ | refine And.intro ?_ ?_ | (intro h; first | exact Bool.noConfusion h | exact nz _ h | exact nl h | (simp at h; done) | (simp at h; first | (exfalso; omega) | skip) | skip) | (change zx _ _ _ _; refine zd rfl trivial ?_) | (change zp _ _ _ _ _; refine zC rfl (by repeat' (first | trivial | refine And.intro ?_ ?_ | (show 0 + _ ≤ List.length _; simp))) zW.refl (c_sortI0) rfl ?_) | (change zp _ _ _ _ _; refine zC rfl (by repeat' (first | trivial | refine And.intro ?_ ?_ | (show 0 + _ ≤ List.length _; simp))) zW.refl (zlK) rfl ?_) | fail)
     exact ⟨ALe.pv PLe.nil⟩
   · have hso := c_sortI (xd m.classes) hne (by omega)
     have hne2 : zbS (xd m.classes) ≠ [] := fun e => hne (List.eq_nil_of_length_eq_zero (by rw [← zb3, e]; rfl))
     have hco := znU (zbS (xd m.classes)) hne2 (by rw [zb3]; omega)
     rw [zb3] at hco
     rw [sl_ne hne rfl, ob_ne hne]
     repeat' (first | ((change zp _ _ _ _ _; refine qX (i := 1) rfl (fun _ _ => rfl) [.ms 0 1 0 (xd m.classes).length] rfl hso ?_; rintro r H' ⟨rfl, rfl⟩; refine ⟨_, rfl, fun _ _ => rfl, fun _ _ => rfl, ?_⟩)) | refine o1 ?_ | refine o2 ?_ | refine k1 ?_ | refine k2 ?_ | refine k3 ?_ | refine k8 ?_ | refine And.intro ?_ ?_ | (intro h; first | exact Bool.noConfusion h | exact nz _ h | exact nl h | (simp at h; done) | (simp at h; first | (exfalso; omega) | skip) | skip) | fail)
     change zp _ _ _ _ _
     refine zaL [1] [some ⟨3, 1, false, .p ((zbS (xd m.classes)).map zr)⟩] [.ms 0 1 0 (xd m.classes).length] rfl ⟨rfl, trivial⟩ rfl hco ?_
     rintro r H' ⟨rfl, zs, rfl⟩
     have hfin : Leq (.pv (.sl 1 ((List.map zr (qW (zbS (xd m.classes))) ++ List.map zr zs).drop 0 |>.take (qW (zbS (xd m.classes))).length))) (.pv (.sl 1 ((zS m).map zr))) := by
      rw [List.drop_zero, List.take_append_of_le_length (by rw [List.length_map]; exact Nat.le_refl _), List.take_of_length_le (by rw [List.length_map]; exact Nat.le_refl _)]
      exact ⟨ALe.refl⟩
     have hle : 0 + (qW (zbS (xd m.classes))).length ≤ (List.map zr (qW (zbS (xd m.classes))) ++ List.map zr zs).length := by
      rw [List.length_append, List.length_map]; omega
     generalize (qW (zbS (xd m.classes))) = C at *
     refine ⟨Nat.le_refl _, ?_⟩
     repeat' (first | refine o1 ?_ | refine o2 ?_ | refine k7 ?_ | fail)
     exact zd rfl (by repeat' (first | exact hle)) hfin
theorem zpD (m : Model) (hz : qJ m) : zH Tryz.prog 41 [ag m.cells] (fun r => r = .pv (.sl 1 ((zS m).map zr))) := (znS m hz).weak fun r k => ⟨_, k.le, rfl⟩
end Go.Proofs.YtihpjcmloecaaaaGreat.Cw
namespace Go.Proofs.YtihpjcmloecaaaaGreat.Cw
open Go Go.Cw Go.Proofs
set_option linter.unusedVariables false
set_option maxRecDepth 100000
set_option maxHeartbeats 8000000
def allL (l : List Opt) : List Int := l.map fun o => o.place.room
def allR (c : List (List Opt)) : List Int := c.flatMap allL
theorem znx {c : List (List Opt)} {x : Int} : x ∈ xd c ↔ 0 ≤ x ∧ x ∈ allR c := by
 unfold xd allR zbA allL
 simp only [List.mem_flatMap, List.mem_filter, decide_eq_true_eq]
 constructor
 · rintro ⟨l, h1, h2, h3⟩; exact ⟨h3, l, h1, h2⟩
 · rintro ⟨h3, l, h1, h2⟩; exact ⟨l, h1, h2, h3⟩
theorem xv (m : Model) : (∀ x, x ∈ zS m ↔ 0 ≤ x ∧ x ∈ allR m.classes) ∧ (zS m).Pairwise fun a b => a < b := by
 obtain ⟨h1, h2⟩ := zja (zoe (xd m.classes))
 refine ⟨fun x => ?_, h2⟩
 show x ∈ qW _ ↔ _
 rw [h1, (znr _).mem_iff, znx]
def NX (last : Int) (rs : List Int) (n : Int) : Prop := (n = -1 ∧ ∀ r ∈ rs, ¬ last < r) ∨ (n ∈ rs ∧ last < n ∧ ∀ r ∈ rs, last < r → n ≤ r)
theorem NX.nil {last : Int} : NX last [] (-1) := .inl ⟨rfl, by simp⟩
theorem NX.take {last n r : Int} {rs : List Int} (hl : -1 ≤ last) (h : NX last rs n) (h1 : last < r) (h2 : n < 0 ∨ r < n) : NX last (rs ++ [r]) r := by
 refine .inr ⟨by simp, h1, fun x hx hxl => ?_⟩
 rcases List.mem_append.1 hx with hx | hx
 · rcases h with ⟨rfl, h⟩ | ⟨h3, h4, h5⟩
   · exact absurd hxl (h x hx)
   · have := h5 x hx hxl; omega
 · simp at hx; omega
theorem NX.leave {last n r : Int} {rs : List Int} (hl : -1 ≤ last) (h : NX last rs n) (h1 : ¬ (last < r ∧ (n < 0 ∨ r < n))) : NX last (rs ++ [r]) n := by
 rcases h with ⟨rfl, h⟩ | ⟨h3, h4, h5⟩
 · refine .inl ⟨rfl, fun x hx hxl => ?_⟩
   rcases List.mem_append.1 hx with hx | hx
   · exact h x hx hxl
   · simp at hx; omega
 · refine .inr ⟨by simp [h3], h4, fun x hx hxl => ?_⟩
   rcases List.mem_append.1 hx with hx | hx
   · exact h5 x hx hxl
   · simp at hx; omega
def zj6 (V : List Int) : Nat → Int
 | 0 => -1
 | t + 1 => (V[t]?).getD (-1)
section
variable {m : Model} {t : Nat} {n : Int}
theorem zoQ (ht : t ≤ (zS m).length) : -1 ≤ zj6 (zS m) t := by
 cases t with
 | zero => exact Int.le_refl _
 | succ t =>
   obtain ⟨x, hx⟩ := qj (show t < (zS m).length by omega)
   have := ((xv m).1 x).1 (List.mem_of_getElem? hx)
   show -1 ≤ ((zS m)[t]?).getD (-1)
   rw [hx]; show -1 ≤ x; omega
theorem zoP {j : Nat} {x : Int} (hj : (zS m)[j]? = some x) (htj : t ≤ j) : zj6 (zS m) t < x := by
 cases t with
 | zero => have := ((xv m).1 x).1 (List.mem_of_getElem? hj); show (-1 : Int) < x; omega
 | succ t =>
   have hjl := (List.getElem?_eq_some_iff.1 hj)
   obtain ⟨hj1, hj2⟩ := hjl
   obtain ⟨y, hy⟩ := qj (show t < (zS m).length by omega)
   obtain ⟨ht1, ht2⟩ := List.getElem?_eq_some_iff.1 hy
   have := List.pairwise_iff_getElem.1 (xv m).2 t j ht1 hj1 (by omega)
   show ((zS m)[t]?).getD (-1) < x
   rw [hy]; show y < x
   omega
theorem last_le {j : Nat} {x : Int} (hj : (zS m)[j]? = some x) (h : zj6 (zS m) t < x) (ht : t ≤ (zS m).length) : t ≤ j := by
 rcases Nat.lt_or_ge j t with hlt | hge
 · exfalso
   cases t with
   | zero => omega
   | succ t =>
     obtain ⟨hj1, hj2⟩ := List.getElem?_eq_some_iff.1 hj
     obtain ⟨y, hy⟩ := qj (show t < (zS m).length by omega)
     obtain ⟨ht1, ht2⟩ := List.getElem?_eq_some_iff.1 hy
     have h : ((zS m)[t]?).getD (-1) < x := h
     rw [hy] at h
     have h : y < x := h
     rcases Nat.eq_or_lt_of_le (Nat.le_of_lt_succ hlt) with e | e
     · subst e; rw [hj] at hy; injection hy with hy; omega
     · have := List.pairwise_iff_getElem.1 (xv m).2 j t hj1 ht1 e
       omega
 · exact hge
theorem nx_none (ht : t ≤ (zS m).length) (h : NX (zj6 (zS m) t) (allR m.classes) n) (hn : n < 0) : (zS m).take t = zS m := by
 rcases Nat.lt_or_ge t (zS m).length with hlt | hge
 · exfalso
   obtain ⟨x, hx⟩ := qj hlt
   have hxm := ((xv m).1 x).1 (List.mem_of_getElem? hx)
   have h1 := zoP hx (Nat.le_refl t)
   rcases h with ⟨-, h⟩ | ⟨-, h2, -⟩
   · exact h x hxm.2 h1
   · have := zoQ ht; omega
 · exact List.take_of_length_le hge
theorem nx_some (ht : t ≤ (zS m).length) (h : NX (zj6 (zS m) t) (allR m.classes) n) (hn : ¬ n < 0) : (zS m)[t]? = some n := by
 rcases h with ⟨rfl, -⟩ | ⟨h1, h2, h3⟩
 · omega
 · obtain ⟨j, hj⟩ := List.getElem?_of_mem (((xv m).1 n).2 ⟨by omega, h1⟩)
   have htj := last_le hj h2 ht
   rcases Nat.eq_or_lt_of_le htj with e | e
   · rw [e]; exact hj
   · exfalso
     obtain ⟨hj1, hj2⟩ := List.getElem?_eq_some_iff.1 hj
     obtain ⟨x, hx⟩ := qj (show t < (zS m).length by omega)
     obtain ⟨ht1, ht2⟩ := List.getElem?_eq_some_iff.1 hx
     have h4 := h3 x (((xv m).1 x).1 (List.mem_of_getElem? hx)).2 (zoP hx (Nat.le_refl t))
     have := List.pairwise_iff_getElem.1 (xv m).2 t j ht1 hj1 e
     omega
end
theorem zp5 {c : List (List Opt)} {i : Nat} {l : List Opt} (h : c[i]? = some l) : allR (c.take (i + 1)) = allR (c.take i) ++ allL l := by
 unfold allR; rw [xS h, List.flatMap_append]; simp
theorem zp6 {l : List Opt} {k : Nat} {o : Opt} (h : l[k]? = some o) : allL (l.take (k + 1)) = allL (l.take k) ++ [o.place.room] := by
 unfold allL; rw [xS h, List.map_append]; rfl
theorem zaQ {m : Model} (hz : qJ m) : (zS m).length ≤ 576 := by
 have h1 := zhO hz.2.1
 have h2 := hz.1
 have h3 := zdu (zbS (xd m.classes))
 rw [zb3] at h3
 unfold zS
 omega
theorem c_used0 (m : Model) (hz : qJ m) : zH Tryz.prog 42 [ag m.cells] (fun r => Leq r (.pv (.sl 1 ((zS m).map zr)))) := by
 have hVl := zaQ hz
 obtain ⟨z1, z2, z3, z4, z5⟩ := hz
 refine zh tok mixed 57 rfl (fn := Tryz.f42) (c := Tryz.f42.body.getD .skip) (by kernel_rfl) (by kernel_rfl) (by kernel_rfl) rfl 0 rfl ?_
 repeat' (first | refine o1 ?_ | refine o2 ?_ | refine k1 ?_ | refine k2 ?_ | refine k4 ?_ | fail)
 refine zB (fun t : Nat => [(1, .ptr 0 4 0 0), (3, slP 1 1 (((zS m).take t).map zr)), (4, zg .i64 (zj6 (zS m) t))])
  (fun t => [some ⟨29, 4, false, .box (pvs m.cells)⟩, obP 3 1 (((zS m).take t).map zr)])
  (fun t => t ≤ (zS m).length) (fun t => (zS m).length - t) 0 (Nat.zero_le _) ?_ ?_
 · exact zJ [0, 1] rfl rfl (by repeat' (first | exact trivial | exact rfl | refine And.intro ?_ ?_)) (by repeat' (first | exact trivial | exact rfl | refine And.intro ?_ ?_))
 intro t ht
 have hlg := zoQ ht
 have hn1 := fun n => nx_none (n := n) ht
 have hn2 := fun n => nx_some (n := n) ht
 have hnl : ∀ n, (zS m)[t]? = some n → zj6 (zS m) (t + 1) = n := fun n h => by show ((zS m)[t]?).getD (-1) = n; rw [h]; rfl
 have htl : ((zS m).take t).length ≤ 576 := Nat.le_trans (List.length_take_le' ..) hVl
 have htn : ∀ n, (zS m)[t]? = some n → (zS m).take (t + 1) = (zS m).take t ++ [n] := fun n h => xS h
 generalize hLA : zj6 (zS m) t = LA at *
 generalize hTK : (zS m).take t = TK at *
 repeat' (first | (refine z6 ?_) | refine o1 ?_ | refine o2 ?_ | refine k1 ?_ | refine k2 ?_ | refine k4 ?_ | fail)
 refine zB (fun x : Nat × Int => [(1, .ptr 0 4 0 0), (3, slP 1 1 (TK.map zr)), (4, zg .i64 LA), (5, zg .i64 x.2), (6, zg .i64 x.1)])
  (fun x => [some ⟨29, 4, false, .box (pvs m.cells)⟩, obP 3 1 (TK.map zr)])
  (fun x => x.1 ≤ m.classes.length ∧ NX LA (allR (m.classes.take x.1)) x.2) (fun x => m.classes.length - x.1) (0, -1) ⟨Nat.zero_le _, NX.nil⟩ ?_ ?_
 · exact zJ [0, 1] rfl rfl (by repeat' (first | exact trivial | exact rfl | refine zu rfl ?_ | refine And.intro ?_ ?_)) (by repeat' (first | exact trivial | exact rfl | exact zG rfl | refine And.intro ?_ ?_))
 rintro ⟨i, n⟩ ⟨hi, hnx⟩
 dsimp only at hi hnx ⊢
 rcases Nat.lt_or_ge i m.classes.length with hlt | hge
 · obtain ⟨l, hl⟩ := qj hlt
   have hln := z2 l (List.mem_of_getElem? hl)
   have hsu := zp5 hl
   generalize allR (m.classes.take i) = RS at *
   repeat' (first | (refine z6 ?_) | refine o1 ?_ | refine o2 ?_ | refine k1 ?_ | refine k2 ?_ | refine k3 ?_ | refine k4 ?_ | refine k6 ?_ | refine And.intro ?_ ?_ | (intro h; first | exact Bool.noConfusion h | exact nz _ h | exact nl h | (simp at h; done) | (simp at h; first | (exfalso; omega) | skip) | skip) | refine za ?_ | fail)
   refine zB (fun x : Nat × Int => [(1, .ptr 0 4 0 0), (3, slP 1 1 (TK.map zr)), (4, zg .i64 LA), (5, zg .i64 x.2), (6, zg .i64 i), (7, zg .i64 x.1)])
    (fun x => [some ⟨29, 4, false, .box (pvs m.cells)⟩, obP 3 1 (TK.map zr)])
    (fun x => x.1 ≤ l.length ∧ NX LA (RS ++ allL (l.take x.1)) x.2) (fun x => l.length - x.1) (0, n) ⟨Nat.zero_le _, by simpa [allL] using hnx⟩ ?_ ?_
   · exact zJ [0, 1] rfl rfl (by repeat' (first | exact trivial | exact rfl | refine zu rfl ?_ | refine And.intro ?_ ?_)) (by repeat' (first | exact trivial | exact rfl | exact zG rfl | refine And.intro ?_ ?_))
   rintro ⟨k, n⟩ ⟨hk, hnk⟩
   dsimp only at hk hnk ⊢
   rcases Nat.lt_or_ge k l.length with hkl | hkg
   · obtain ⟨o, ho⟩ := qj hkl
     have hsk : RS ++ allL (l.take (k + 1)) = (RS ++ allL (l.take k)) ++ [o.place.room] := by rw [zp6 ho, List.append_assoc]
     have htk := fun h1 h2 => hnk.take (r := o.place.room) hlg h1 h2
     have hlv := fun h => hnk.leave (r := o.place.room) hlg h
     rw [← hsk] at htk hlv
     repeat' (first | (refine z6 ?_) | (refine zj (k := i) (zf hl) rfl ?_) | (refine zj (k := k) (zf ho) rfl ?_) | refine o1 ?_ | refine o2 ?_ | refine k1 ?_ | refine k2 ?_ | refine k3 ?_ | refine k4 ?_ | refine k6 ?_ | refine And.intro ?_ ?_ | (intro h; first | exact Bool.noConfusion h | exact nz _ h | exact nl h | (simp at h; done) | (simp at h; first | (exfalso; omega) | skip) | skip) | refine za ?_ | refine zc (by omega) (by omega) ?_ | fail)
     all_goals first
      | exact ⟨(k + 1, o.place.room), ⟨by dsimp only; omega, htk (by omega) (by omega)⟩, by dsimp only; omega, zJ [0, 1] rfl rfl (by repeat' (first | exact trivial | exact rfl | refine zu rfl ?_ | refine And.intro ?_ ?_)) (by repeat' (first | exact trivial | exact rfl | exact zG rfl | refine And.intro ?_ ?_))⟩
      | exact ⟨(k + 1, n), ⟨by dsimp only; omega, hlv (by omega)⟩, by dsimp only; omega, zJ [0, 1] rfl rfl (by repeat' (first | exact trivial | exact rfl | refine zu rfl ?_ | refine And.intro ?_ ?_)) (by repeat' (first | exact trivial | exact rfl | exact zG rfl | refine And.intro ?_ ?_))⟩
   · obtain rfl : k = l.length := by omega
     rw [List.take_length, ← hsu] at hnk
     repeat' (first | (refine z6 ?_) | (refine zj (k := i) (zf hl) rfl ?_) | refine o1 ?_ | refine o2 ?_ | refine k1 ?_ | refine k2 ?_ | refine k3 ?_ | refine k8 ?_ | refine And.intro ?_ ?_ | (intro h; first | exact Bool.noConfusion h | exact nz _ h | exact nl h | (simp at h; done) | (simp at h; first | (exfalso; omega) | skip) | skip) | refine za ?_ | refine zc (by omega) (by omega) ?_ | fail)
     all_goals first
      | exact ⟨(i + 1, n), ⟨by dsimp only; omega, hnk⟩, by dsimp only; omega, zJ [0, 1] rfl rfl (by repeat' (first | exact trivial | exact rfl | refine zu rfl ?_ | refine And.intro ?_ ?_)) (by repeat' (first | exact trivial | exact rfl | exact zG rfl | refine And.intro ?_ ?_))⟩
 · obtain rfl : i = m.classes.length := by omega
   rw [List.take_length] at hnx
   by_cases hn : n < 0
   · have h1 := hn1 n hnx hn
     rw [h1]
     repeat' (first | (refine xl ?_) | (refine z6 ?_) | refine o1 ?_ | refine o2 ?_ | refine k1 ?_ | refine k2 ?_ | refine k3 ?_ | refine k7 ?_ | refine k8 ?_ | refine And.intro ?_ ?_ | (intro h; first | exact Bool.noConfusion h | exact nz _ h | exact nl h | (simp at h; done) | (simp at h; first | (exfalso; omega) | skip) | skip) | refine za ?_ | fail)
     all_goals first
      | (exfalso; omega)
      | exact zon rfl ⟨ALe.refl⟩ ziV
   · have h2 := hn2 n hnx hn
     repeat' (first | (refine xl ?_) | (refine z6 ?_) | ((refine zbB rfl rfl rfl rfl rfl rfl rfl rfl rfl rfl rfl (by rw [List.length_map]; omega) (by rw [List.length_map]; omega) ?_)) | refine o1 ?_ | refine o2 ?_ | refine k1 ?_ | refine k2 ?_ | refine k3 ?_ | refine k6 ?_ | refine k8 ?_ | refine And.intro ?_ ?_ | (intro h; first | exact Bool.noConfusion h | exact nz _ h | exact nl h | (simp at h; done) | (simp at h; first | (exfalso; omega) | skip) | skip) | refine za ?_ | fail)
     all_goals first
      | (exfalso; omega)
      | (refine ⟨t + 1, (List.getElem?_eq_some_iff.1 h2).1, by have := (List.getElem?_eq_some_iff.1 h2).1; omega, ?_⟩
         rw [htn n h2, hnl n h2, zM, qn, qo]
         exact zJ [0, 3] rfl rfl (by repeat' (first | exact trivial | exact rfl | refine And.intro ?_ ?_)) (by repeat' (first | exact trivial | exact rfl | refine And.intro ?_ ?_)))
theorem c_used (m : Model) (hz : qJ m) : zH Tryz.prog 42 [ag m.cells] (fun r => r = .pv (.sl 1 ((zS m).map zr))) := (c_used0 m hz).weak fun r k => ⟨_, k.le, rfl⟩
end Go.Proofs.YtihpjcmloecaaaaGreat.Cw
