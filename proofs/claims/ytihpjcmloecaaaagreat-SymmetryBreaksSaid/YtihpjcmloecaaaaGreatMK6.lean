/-
  Part 6 of the proof (SYJ, SYK, SYL, SYM, SYN, M8, SW2, SW3, SC1, SB6, SB5, SB7, SB8, SB9, SBA, SC2, SC3): what later parts use. No conditions.
-/
import Derived.Test.YtihpjcmloecaaaaGreatMK5
namespace Go.Proofs.YtihpjcmloecaaaaGreat.Cw
open Go Go.Cw Go.Proofs
set_option linter.unusedVariables false
set_option maxRecDepth 100000
theorem zmv {l : List Opt} {i j : Nat} {r s : Int} (h : za3 l i r = some j) : za3 l j s = za3 l i s := by
 obtain ⟨o, ho⟩ : ∃ o, l[i]? = some o := by
  cases e : l[i]? with
  | some o => exact ⟨o, rfl⟩
  | none => unfold za3 at h; rw [e] at h; cases h
 have hj := zmu h
 obtain ⟨q, hq⟩ := qj hj
 unfold za3 at h ⊢
 rw [ho] at h
 rw [ho, hq]
 dsimp only at h ⊢
 obtain ⟨o1, k1, k2⟩ := zdF.1 (zb5.1 (List.mem_of_getElem? h)).2
 rw [hq] at k1; cases k1
 have h2 := zcv (zaJ hq rfl) hj
 rw [k2] at h2 ⊢
 have hnd := zgm (l := l) (p := qU o.place r) (n := l.length)
 have hK : (qk l (qU o.place r) j).length = (qk l o.place i).length := by
  obtain ⟨b1, e1⟩ := List.getElem?_eq_some_iff.1 h
  obtain ⟨b2, e2⟩ := List.getElem?_eq_some_iff.1 h2
  rcases Nat.lt_trichotomy (qk l o.place i).length (qk l (qU o.place r) j).length with h | h | h
  · exact absurd (e1.trans e2.symm) (List.pairwise_iff_getElem.1 hnd _ _ b1 b2 h)
  · exact h.symm
  · exact absurd (e2.trans e1.symm) (List.pairwise_iff_getElem.1 hnd _ _ b2 b1 h)
 rw [hK]; rfl
theorem zmt {l : List Opt} {i j : Nat} {r : Int} {q : Opt} (h : za3 l i r = some j) (hq : l[j]? = some q) : q.place.room = r := by
 unfold za3 at h
 split at h
 · obtain ⟨o1, k1, k2⟩ := zdF.1 (zb5.1 (List.mem_of_getElem? h)).2
   rw [hq] at k1; cases k1
   rw [k2]; rfl
 · cases h
theorem zpa {x a b c : Int} (h1 : a ≠ b) (h2 : a ≠ c) (h3 : b ≠ c) : zfA (zfA (zfA x a c) b c) a c = zfA x a b := by
 unfold zfA
 grind
theorem ziI {l : List Opt} {a b c : Int} (h1 : a ≠ b) (h2 : a ≠ c) (h3 : b ≠ c) (hac : zcX l a c) (hbc : zcX l b c) {i : Nat} (hi : i < l.length) :
  okO l a b i ∧ imN l a b i = imN l a c (imN l b c (imN l a c i)) := by
 obtain ⟨i1, o, q1, e1, e2, e3, e4⟩ := hac i hi
 have hi1 := (List.getElem?_eq_some_iff.1 e3).1
 obtain ⟨i2, o', q2, f1, f2, f3, f4⟩ := hbc i1 hi1
 rw [e3] at f2; cases f2
 have hi2 := (List.getElem?_eq_some_iff.1 f3).1
 obtain ⟨i3, o', q3, g1, g2, g3, g4⟩ := hac i2 hi2
 rw [f3] at g2; cases g2
 have n1 : imN l a c i = i1 := by unfold imN; rw [e1]; rfl
 have n2 : imN l b c i1 = i2 := by unfold imN; rw [f1]; rfl
 have n3 : imN l a c i2 = i3 := by unfold imN; rw [g1]; rfl
 rw [zbQ e2 rfl] at e1
 rw [zbQ e3 rfl] at f1
 rw [zbQ f3 rfl] at g1
 have r1 := zmt e1 e3
 have r2 := zmt f1 f3
 rw [zmv f1, zmv e1, r2, r1, zpa h1 h2 h3] at g1
 have hs : zc3 l a b i = some i3 := by rw [zbQ e2 rfl]; exact g1
 refine ⟨⟨i3, o, q3, hs, e2, g3, e4.trans (f4.trans g4)⟩, ?_⟩
 rw [n1, n2, n3]
 unfold imN; rw [hs]; rfl
section
variable {m : Model} {a b c : Int}
theorem zox {g : Load → Int} {x y : Count} (h1 : x.rule = y.rule) (h2 : x.most = y.most) (h3 : x.penalty = y.penalty) (h4 : x.loads.Perm y.loads) : zay g x = zay g y := by
 unfold zay
 rw [h1, h2, h3, (zlZ zjy).2 (h4.map (zcz g))]
theorem zoy {g : Load → Int} (x : Count) : zay g (zay Load.opt x) = zay g x := by
 refine zox rfl rfl rfl ?_
 have : (zcz Load.opt) = id := rfl
 show (srt ldC (x.loads.map (zcz Load.opt))).Perm _
 rw [this, List.map_id]
 exact zba _
theorem zlq (h1 : a ≠ b) (h2 : a ≠ c) (h3 : b ≠ c) (hac : zdy m a c) (hbc : zdy m b c) {x : Load} (hx : xV m x.cls x.opt) :
  zcz (zO m a b) x = zcz (zO m a c) (zcz (zO m b c) (zcz (zO m a c) x)) := by
 obtain ⟨k1, k2, l, k3, k4⟩ := hx
 have hl := List.mem_of_getElem? k3
 have e : ∀ (d f : Int) (y : Load), y.cls = x.cls → zO m d f y = (imN l d f y.opt.toNat : Int) := fun d f y hy => by unfold zO; rw [hy, k3]
 have hc := (ziI h1 h2 h3 (hac l hl) (hbc l hl) (i := x.opt.toNat) (by omega)).2
 show (⟨x.cls, zO m a b x, x.weight⟩ : Load) = ⟨x.cls, zO m a c (zcz (zO m b c) (zcz (zO m a c) x)), x.weight⟩
 have e1 := e a b x rfl
 have e2 := e a c (zcz (zO m b c) (zcz (zO m a c) x)) rfl
 have e3 := e b c (zcz (zO m a c) x) rfl
 have e4 := e a c x rfl
 have o1 : (zcz (zO m a c) x).opt = (imN l a c x.opt.toNat : Int) := e4
 have o2 : (zcz (zO m b c) (zcz (zO m a c) x)).opt = (imN l b c (imN l a c x.opt.toNat) : Int) := by
  show zO m b c (zcz (zO m a c) x) = _
  rw [e3, o1]; rfl
 rw [e1, e2, o2, hc]; rfl
theorem zoz (h1 : a ≠ b) (h2 : a ≠ c) (h3 : b ≠ c) (hac : zdy m a c) (hbc : zdy m b c) {x : Count} (hx : ∀ l ∈ x.loads, xV m l.cls l.opt) :
  zay (zO m a b) x = zay (zO m a c) (zay (zO m b c) (zay (zO m a c) x)) := by
 have e : x.loads.map (zcz (zO m a b)) = ((x.loads.map (zcz (zO m a c))).map (zcz (zO m b c))).map (zcz (zO m a c)) := by
  rw [List.map_map, List.map_map]
  exact List.map_congr_left fun y hy => zlq h1 h2 h3 hac hbc (hx y hy)
 show (⟨x.rule, _, x.most, x.penalty⟩ : Count) = ⟨x.rule, _, x.most, x.penalty⟩
 congr 1
 rw [zlZ zjy, e]
 refine List.Perm.map _ ?_
 show (List.map (zcz (zO m b c)) _).Perm (srt ldC (List.map (zcz (zO m b c)) (srt ldC _)))
 exact ((zba _).symm.map _).trans (zba _).symm
theorem zhE (hz : qJ m) (hg : zdQ m) (h1 : a ≠ b) (h2 : a ≠ c) (h3 : b ≠ c) (hac : zbz m a c) (hbc : zbz m b c) : zbz m a b := by
 obtain ⟨i1, e1, c1⟩ := hac
 obtain ⟨i2, e2, c2⟩ := hbc
 refine ⟨fun l hl i hi => (ziI h1 h2 h3 (i1 l hl) (i2 l hl) hi).1, fun p hp x y hx hy i hi k hk => ?_, ?_⟩
 · have hxm := List.mem_of_getElem? hx
   have hym := List.mem_of_getElem? hy
   rw [(ziI h1 h2 h3 (i1 x hxm) (i2 x hxm) hi).2, (ziI h1 h2 h3 (i1 y hym) (i2 y hym) hk).2]
   have a1 := (zdh (i1 x hxm i hi)).2
   have a2 := (zdh (i1 y hym k hk)).2
   have b1 := (zdh (i2 x hxm _ a1)).2
   have b2 := (zdh (i2 y hym _ a2)).2
   exact (e1 p hp x y hx hy i hi k hk).trans ((e2 p hp x y hx hy _ a1 _ a2).trans (e1 p hp x y hx hy _ b1 _ b2))
 · rw [zly] at c1 c2 ⊢
   have hm : m.counts.map (zay (zO m a b)) = ((m.counts.map (zay (zO m a c))).map (zay (zO m b c))).map (zay (zO m a c)) := by
    rw [List.map_map, List.map_map]
    exact List.map_congr_left fun x hx => zoz h1 h2 h3 i1 i2 fun l hl => (zck hg hx hl).1
   have hN : ∀ g, (m.counts.map (zay Load.opt)).map (zay g) = m.counts.map (zay g) := fun g => by
    rw [List.map_map]
    exact List.map_congr_left fun x _ => zoy x
   rw [hm]
   have p1 := (c1.map (zay (zO m b c)))
   rw [hN] at p1
   have p2 := (p1.trans c2).map (zay (zO m a c))
   rw [hN] at p2
   exact p2.trans c1
end
end Go.Proofs.YtihpjcmloecaaaaGreat.Cw
namespace Go.Proofs.YtihpjcmloecaaaaGreat.Cw
open Go Go.Cw Go.Proofs
set_option linter.unusedVariables false
set_option maxRecDepth 100000
set_option maxHeartbeats 8000000
noncomputable def swB (m : Model) (x b : Int) : Bool := pB (zbz m x b)
noncomputable def zao (m : Model) : Nat → List Int → List (List Int)
 | 0, _ => []
 | _ + 1, [] => []
 | n + 1, x :: l => (if l.filter (swB m x) = [] then [] else [x :: l.filter (swB m x)]) ++ zao m n (l.filter fun b => !swB m x b)
noncomputable def xr (m : Model) : List (List Int) := if qx m = 0 then zao m (zS m).length (zS m) else []
theorem zet {m : Model} : ∀ {n : Nat}, zao m n [] = []
 | 0 => rfl
 | _ + 1 => rfl
theorem zgk {m : Model} : ∀ {n k : Nat} {l : List Int}, l.length ≤ n → l.length ≤ k → zao m n l = zao m k l
 | n, k, [], _, _ => by rw [zet, zet]
 | 0, _, x :: l, h, _ => by simp at h
 | _, 0, x :: l, _, h => by simp at h
 | n + 1, k + 1, x :: l, h1, h2 => by
   unfold zao
   have := List.length_filter_le (fun b => !swB m x b) l
   simp only [List.length_cons] at h1 h2
   rw [zgk (n := n) (k := k) (by omega) (by omega)]
theorem zmH {α : Type} {p : α → Bool} : ∀ {l : List α}, (l.filter p).length + (l.filter fun x => !p x).length = l.length
 | [] => rfl
 | x :: l => by
   have ih := zmH (p := p) (l := l)
   cases h : p x <;> simp [h] <;> omega
def q9 (l : List Int) : List PV := [.sl 1 (l.map zr)]
def slS (x : Int) (F : List Int) : AV := match F with
 | [] => .clip 1 [zr x]
 | _ :: _ => .ms 2 1 0 (F.length + 1)
def obS (x : Int) (F : List Int) : Option AObj := match F with
 | [] => none
 | _ :: _ => some ⟨3, 1, false, .p ((x :: F).map zr)⟩
theorem clip_le {z : Nat} {xs : List (List PV)} : ALe (.clip z xs) (.pv (.sl z xs)) := fun I β w v h => by
 cases h with
 | clip h => exact .pv h
theorem c_Rooms0 (m : Model) (hl : Laid m) : zH Tryz.prog 16 [ag m.cells] (fun r => Leq r (.pv (.sl 1 ((xr m).map q9)))) := by
 have hv := zjd m hl
 by_cases hok : qx m = 0
 · have hz := qP hok
   have hg := zak hok
   have hnu := zpD m hz
   have hVl := zaQ hz
   have e : xr m = zao m (zS m).length (zS m) := if_pos hok
   rw [e]
   rw [hok] at hv
   refine zh tok mixed 56 rfl (fn := Tryz.f16) (c := Tryz.f16.body.getD .skip) (by kernel_rfl) (by kernel_rfl) (by kernel_rfl) rfl 0 rfl ?_
   repeat' (first | ((change zp _ _ _ _ _; refine qw rfl (by repeat' (first | trivial | refine And.intro ?_ ?_ | (show 0 + _ ≤ List.length _; simp))) zW.refl hnu ?_; rintro _ rfl)) | refine o1 ?_ | refine o2 ?_ | refine k1 ?_ | refine k2 ?_ | refine k3 ?_ | refine k4 ?_ | refine k6 ?_ | refine And.intro ?_ ?_ | (intro h; first | exact Bool.noConfusion h | exact nz _ h | exact nl h | (simp at h; done) | (simp at h; first | (exfalso; omega) | skip) | skip) | (change zp _ _ _ _ _; refine zC rfl (by repeat' (first | trivial | refine And.intro ?_ ?_ | (show 0 + _ ≤ List.length _; simp))) zW.refl (hv) rfl ?_) | fail)
   refine zB (fun x : List Int × List (List Int) => [(1, .ptr 0 4 0 0), (3, slP 1 1 (x.2.map q9)), (4, .pv (.sl 1 (x.1.map zr)))])
    (fun x => [some ⟨29, 4, false, .box (pvs m.cells)⟩, obP 22 1 (x.2.map q9)])
    (fun x => x.1.length ≤ 576 ∧ x.2.length + x.1.length ≤ 576 ∧ x.2 ++ zao m x.1.length x.1 = zao m (zS m).length (zS m)) (fun x => x.1.length) (zS m, []) ⟨hVl, by simpa using hVl, rfl⟩ ?_ ?_
   · exact zJ [0, 1] rfl rfl (by repeat' (first | exact trivial | exact rfl | refine And.intro ?_ ?_)) (by repeat' (first | exact trivial | exact rfl | refine And.intro ?_ ?_))
   rintro ⟨L, OUT⟩ ⟨h1, h2, h3⟩
   dsimp only at h1 h2 h3 ⊢
   rcases L with _ | ⟨x, l⟩
   · rw [zet, List.append_nil] at h3
     rw [← h3]
     repeat' (first | (refine xl ?_) | (refine z6 ?_) | refine o1 ?_ | refine o2 ?_ | refine k1 ?_ | refine k2 ?_ | refine k3 ?_ | refine k7 ?_ | refine k8 ?_ | refine And.intro ?_ ?_ | (intro h; first | exact Bool.noConfusion h | exact nz _ h | exact nl h | (simp at h; done) | (simp at h; first | (exfalso; omega) | skip) | skip) | refine za ?_ | fail)
     exact zon rfl ⟨ALe.refl⟩ ziV
   · have hsl : ∀ n, (l.filter fun b => !swB m x b).length ≤ n → zao m n (l.filter fun b => !swB m x b) = zao m (l.filter fun b => !swB m x b).length (l.filter fun b => !swB m x b) := fun n hn => zgk hn (Nat.le_refl _)
     have hln : l.length ≤ 575 := by simpa using h1
     have hdr : List.drop 1 (List.take (List.map zr (x :: l)).length (List.map zr (x :: l))) = l.map zr := by rw [List.take_length]; rfl
     repeat' (first | (refine z6 ?_) | (refine ⟨1, (by simp), rfl, rfl, ?_⟩) | (refine ⟨1, (List.map zr (x :: l)).length, rfl, rfl, (by simp), Nat.le_refl _, ?_⟩) | (refine zi (l.map zr) hdr ?_) | refine o1 ?_ | refine o2 ?_ | refine k1 ?_ | refine k2 ?_ | refine k3 ?_ | refine k4 ?_ | refine k6 ?_ | refine And.intro ?_ ?_ | (intro h; first | exact Bool.noConfusion h | exact nz _ h | exact nl h | (simp at h; done) | (simp at h; first | (exfalso; omega) | skip) | skip) | refine za ?_ | fail)
     refine zB (fun k : Nat => [(1, .ptr 0 4 0 0), (3, slP 1 1 (OUT.map q9)), (4, .pv (.sl 1 ((x :: l).map zr))), (5, slS x ((l.take k).filter (swB m x))), (6, slP 3 1 (((l.take k).filter fun b => !swB m x b).map zr)), (22, .pv (.sl 1 (l.map zr))), (23, zg .i64 l.length), (24, zg .i64 k)])
      (fun k => [some ⟨29, 4, false, .box (pvs m.cells)⟩, obP 22 1 (OUT.map q9), obS x ((l.take k).filter (swB m x)), obP 3 1 (((l.take k).filter fun b => !swB m x b).map zr)])
      (fun k => k ≤ l.length) (fun k => l.length - k) 0 (Nat.zero_le _) ?_ ?_
     · exact zJ [0, 1, 2, 3] rfl rfl (by repeat' (first | exact trivial | exact rfl | refine zu rfl ?_ | refine And.intro ?_ ?_)) (by repeat' (first | exact trivial | exact rfl | exact zG rfl | refine And.intro ?_ ?_))
     intro k hk
     rcases Nat.lt_or_ge k l.length with hkl | hkg
     · obtain ⟨b, hb⟩ := qj hkl
       have hsw := zpv m x b hz hg
       have hFl : ((l.take k).filter (swB m x)).length ≤ 575 := Nat.le_trans (List.length_filter_le ..) (Nat.le_trans (List.length_take_le' ..) hln)
       have hGl : ((l.take k).filter fun b => !swB m x b).length ≤ 575 := Nat.le_trans (List.length_filter_le ..) (Nat.le_trans (List.length_take_le' ..) hln)
       have hF1 : (l.take (k + 1)).filter (swB m x) = if swB m x b then (l.take k).filter (swB m x) ++ [b] else (l.take k).filter (swB m x) := by
        rw [xS hb, List.filter_append]; by_cases h : swB m x b = true <;> simp [h]
       have hG1 : ((l.take (k + 1)).filter fun b => !swB m x b) = if swB m x b then ((l.take k).filter fun b => !swB m x b) else ((l.take k).filter fun b => !swB m x b) ++ [b] := by
        rw [xS hb, List.filter_append]; by_cases h : swB m x b = true <;> simp [h]
       generalize hFF : (l.take k).filter (swB m x) = F at *
       generalize hGG : ((l.take k).filter fun b => !swB m x b) = G at *
       by_cases hP : zbz m x b
       · have hS : swB m x b = true := zaS hP
         rw [if_pos hS] at hF1 hG1
         rw [zaS hP] at hsw
         rcases F with _ | ⟨a, F⟩
         · repeat' (first | (refine z6 ?_) | (refine zj (k := k) (zf hb) rfl ?_) | (refine zj (k := 0) (r := zr x) rfl rfl ?_) | ((change zI _ _ _ _ _; refine zF rfl (by repeat' (first | trivial | refine And.intro ?_ ?_ | (show 0 + _ ≤ List.length _; simp))) zW.refl hsw rfl ?_)) | (refine zi (Rows.p ([x, b].map zr)) rfl (zi 2 rfl ?_)) | refine o1 ?_ | refine o2 ?_ | refine k1 ?_ | refine k2 ?_ | refine k3 ?_ | refine k4 ?_ | refine k6 ?_ | refine And.intro ?_ ?_ | refine o3 ?_ | refine o4 ?_ | (intro h; first | exact Bool.noConfusion h | exact nz _ h | exact nl h | (simp at h; done) | (simp at h; first | (exfalso; omega) | skip) | skip) | (refine (?_ : z8 _ = zb _); rfl) | exact Nat.le_of_ble_eq_true rfl | exact (by kernel_rfl : zn _ _ = true) | refine zc (by omega) (by omega) ?_ | fail)
           refine ⟨k + 1, by omega, by omega, ?_⟩
           rw [hF1, hG1]
           exact zJ [0, 1, 5, 3] rfl rfl (by repeat' (first | exact trivial | exact rfl | refine zu rfl ?_ | refine And.intro ?_ ?_)) (by repeat' (first | exact trivial | exact rfl | exact zG rfl | refine And.intro ?_ ?_))
         · repeat' (first | (refine z6 ?_) | (refine zj (k := k) (zf hb) rfl ?_) | (refine zj (k := 0) (r := zr x) rfl rfl ?_) | ((change zI _ _ _ _ _; refine zF rfl (by repeat' (first | trivial | refine And.intro ?_ ?_ | (show 0 + _ ≤ List.length _; simp))) zW.refl hsw rfl ?_)) | ((show zb _ * _ ≤ _; simp [zb] at *; omega)) | ((show zb _ ≤ _; simp [zb] at *; omega)) | refine o1 ?_ | refine o2 ?_ | refine k1 ?_ | refine k2 ?_ | refine k3 ?_ | refine k4 ?_ | refine k6 ?_ | refine And.intro ?_ ?_ | refine o3 ?_ | refine o4 ?_ | (intro h; first | exact Bool.noConfusion h | exact nz _ h | exact nl h | (simp at h; done) | (simp at h; first | (exfalso; omega) | skip) | skip) | (refine (?_ : z8 _ = zb _); rfl) | exact (by kernel_rfl : zn _ _ = true) | refine zc (by omega) (by omega) ?_ | (refine (?_ : _ = zb _); simp [zb] <;> omega) | refine zi _ (qK rfl) (zi _ qY ?_) | fail)
           refine ⟨k + 1, by omega, by omega, ?_⟩
           rw [hF1, hG1]
           exact zJ [0, 1, 5, 3] rfl rfl (by repeat' (first | exact trivial | exact rfl | refine zu rfl ?_ | refine And.intro ?_ ?_)) (by repeat' (first | exact trivial | exact rfl | exact zG rfl | refine And.intro ?_ ?_))
       · have hS : swB m x b = false := zaj hP
         rw [if_neg (by rw [hS]; simp)] at hF1 hG1
         rw [zaj hP] at hsw
         rcases F with _ | ⟨a, F⟩
         · repeat' (first | (refine xl ?_) | (refine z6 ?_) | (refine zj (k := k) (zf hb) rfl ?_) | (refine zj (k := 0) (r := zr x) rfl rfl ?_) | ((change zI _ _ _ _ _; refine zF rfl (by repeat' (first | trivial | refine And.intro ?_ ?_ | (show 0 + _ ≤ List.length _; simp))) zW.refl hsw rfl ?_)) | ((refine zbB rfl rfl rfl rfl rfl rfl rfl rfl rfl rfl rfl (by rw [List.length_map]; omega) (by rw [List.length_map]; omega) ?_)) | refine o1 ?_ | refine o2 ?_ | refine k1 ?_ | refine k2 ?_ | refine k3 ?_ | refine k4 ?_ | refine k6 ?_ | refine And.intro ?_ ?_ | refine o3 ?_ | refine o4 ?_ | (intro h; first | exact Bool.noConfusion h | exact nz _ h | exact nl h | (simp at h; done) | (simp at h; first | (exfalso; omega) | skip) | skip) | exact (by kernel_rfl : zn _ _ = true) | refine zc (by omega) (by omega) ?_ | fail)
           refine ⟨k + 1, by omega, by omega, ?_⟩
           rw [hF1, hG1, zM, qn, qo]
           exact zJ [0, 1, 2, 5] rfl rfl (by repeat' (first | exact trivial | exact rfl | refine zu rfl ?_ | refine And.intro ?_ ?_)) (by repeat' (first | exact trivial | exact rfl | exact zG rfl | refine And.intro ?_ ?_))
         · repeat' (first | (refine xl ?_) | (refine z6 ?_) | (refine zj (k := k) (zf hb) rfl ?_) | (refine zj (k := 0) (r := zr x) rfl rfl ?_) | ((change zI _ _ _ _ _; refine zF rfl (by repeat' (first | trivial | refine And.intro ?_ ?_ | (show 0 + _ ≤ List.length _; simp))) zW.refl hsw rfl ?_)) | ((refine zbB rfl rfl rfl rfl rfl rfl rfl rfl rfl rfl rfl (by rw [List.length_map]; omega) (by rw [List.length_map]; omega) ?_)) | refine o1 ?_ | refine o2 ?_ | refine k1 ?_ | refine k2 ?_ | refine k3 ?_ | refine k4 ?_ | refine k6 ?_ | refine And.intro ?_ ?_ | refine o3 ?_ | refine o4 ?_ | (intro h; first | exact Bool.noConfusion h | exact nz _ h | exact nl h | (simp at h; done) | (simp at h; first | (exfalso; omega) | skip) | skip) | exact (by kernel_rfl : zn _ _ = true) | refine zc (by omega) (by omega) ?_ | fail)
           refine ⟨k + 1, by omega, by omega, ?_⟩
           rw [hF1, hG1, zM, qn, qo]
           exact zJ [0, 1, 2, 5] rfl rfl (by repeat' (first | exact trivial | exact rfl | refine zu rfl ?_ | refine And.intro ?_ ?_)) (by repeat' (first | exact trivial | exact rfl | exact zG rfl | refine And.intro ?_ ?_))
     · obtain rfl : k = l.length := by omega
       rw [List.take_length]
       have hsum := zmH (p := swB m x) (l := l)
       have hst : zao m (x :: l).length (x :: l) = (if l.filter (swB m x) = [] then [] else [x :: l.filter (swB m x)]) ++ zao m (l.filter fun b => !swB m x b).length (l.filter fun b => !swB m x b) := by
        rw [← hsl l.length (List.length_filter_le ..)]; rfl
       rw [hst] at h3
       simp only [List.length_cons] at h1 h2
       generalize hFF : l.filter (swB m x) = F at *
       generalize hGG : (l.filter fun b => !swB m x b) = G at *
       refine zq ?_
       rcases F with _ | ⟨a, F⟩
       · rw [if_pos rfl, List.nil_append] at h3
         refine qh (Γ' := [(1, .ptr 0 4 0 0), (3, slP 1 1 (OUT.map q9)), (5, .pv (.sl 1 [zr x])), (6, .pv (.sl 1 (G.map zr))), (22, .pv (.sl 1 (l.map zr))), (23, zg .i64 l.length), (24, zg .i64 l.length)]) (H' := [some ⟨29, 4, false, .box (pvs m.cells)⟩, obP 22 1 (OUT.map q9)]) (zD.trans (zD.weak (s := 5) rfl clip_le) (zD.sl (s := 6) (id := 3) rfl rfl fun H' hl hH => zJ [0, 1] rfl rfl (And.intro (hH 0 (by decide)) (zu (hH 1 (by decide)) trivial)) (by repeat' (first | exact trivial | exact rfl | exact zG rfl | refine And.intro ?_ ?_)))) ?_
         repeat' (first | refine o1 ?_ | refine o2 ?_ | refine k1 ?_ | refine k2 ?_ | refine k3 ?_ | refine k6 ?_ | refine k8 ?_ | refine And.intro ?_ ?_ | (intro h; first | exact Bool.noConfusion h | exact nz _ h | exact nl h | (simp at h; done) | (simp at h; first | (exfalso; omega) | skip) | skip) | refine zL ?_ | fail)
         all_goals first
          | (exfalso; omega)
          | exact ⟨(G, OUT), ⟨by dsimp only; simp at hsum; omega, by dsimp only; simp at hsum; omega, h3⟩, by dsimp only; simp at hsum ⊢; omega, zJ [0, 1] rfl rfl (by repeat' (first | exact trivial | exact rfl | refine zu rfl ?_ | refine And.intro ?_ ?_)) (by repeat' (first | exact trivial | exact rfl | exact zG rfl | refine And.intro ?_ ?_))⟩
       · rw [if_neg (by simp)] at h3
         refine qh (Γ' := [(1, .ptr 0 4 0 0), (3, slP 1 1 (OUT.map q9)), (5, .pv (.sl 1 ((x :: a :: F).map zr))), (6, .pv (.sl 1 (G.map zr))), (22, .pv (.sl 1 (l.map zr))), (23, zg .i64 l.length), (24, zg .i64 l.length)]) (H' := [some ⟨29, 4, false, .box (pvs m.cells)⟩, obP 22 1 (OUT.map q9)]) (zD.trans (zD.freeze (s := 5) rfl rfl (by repeat' (first | (show 0 + _ ≤ List.length _; simp)))) (zD.trans (zD.weak (s := 5) rfl (ALe.pv (zei (f := zr) (l := x :: a :: F) (Nat.le_refl _)))) (zD.sl (s := 6) (id := 3) rfl rfl fun H' hl hH => zJ [0, 1] rfl rfl (And.intro (hH 0 (by decide)) (zu (hH 1 (by decide)) trivial)) (by repeat' (first | exact trivial | exact rfl | exact zG rfl | refine And.intro ?_ ?_))))) ?_
         have hOl : OUT.length ≤ 576 := by omega
         repeat' (first | (refine xl ?_) | (refine z6 ?_) | ((refine zbB rfl rfl rfl rfl rfl rfl rfl rfl rfl rfl rfl (by rw [List.length_map]; omega) (by rw [List.length_map]; omega) ?_)) | refine o1 ?_ | refine o2 ?_ | refine k1 ?_ | refine k2 ?_ | refine k3 ?_ | refine k8 ?_ | refine And.intro ?_ ?_ | (intro h; first | exact Bool.noConfusion h | exact nz _ h | exact nl h | (simp at h; done) | (simp at h; first | (exfalso; omega) | skip) | skip) | refine za ?_ | fail)
         all_goals first
          | (exfalso; omega)
          | (refine ⟨(G, OUT ++ [x :: a :: F]), ⟨by dsimp only; simp at hsum; omega, by dsimp only; simp at hsum ⊢; omega, by dsimp only; rw [List.append_assoc]; exact h3⟩, by dsimp only; simp at hsum ⊢; omega, ?_⟩
             dsimp only
             rw [zM, qn, qo]
             exact zJ [0, 3] rfl rfl (by repeat' (first | exact trivial | exact rfl | refine And.intro ?_ ?_)) (by repeat' (first | exact trivial | exact rfl | refine And.intro ?_ ?_)))
 · have e : xr m = [] := if_neg hok
   rw [e]
   generalize qx m = E at hv hok
   refine zh tok mixed 56 rfl (fn := Tryz.f16) (c := Tryz.f16.body.getD .skip) (by kernel_rfl) (by kernel_rfl) (by kernel_rfl) rfl 0 rfl ?_
   repeat' (first | refine o1 ?_ | refine o2 ?_ | refine k1 ?_ | refine k2 ?_ | refine k3 ?_ | refine k7 ?_ | refine And.intro ?_ ?_ | (intro h; first | exact Bool.noConfusion h | exact nz _ h | exact nl h | (simp at h; done) | (simp at h; first | (exfalso; omega) | skip) | skip) | (change zx _ _ _ _; refine zd rfl trivial ?_) | (change zp _ _ _ _ _; refine zC rfl (by repeat' (first | trivial | refine And.intro ?_ ?_ | (show 0 + _ ≤ List.length _; simp))) zW.refl (hv) rfl ?_) | fail)
   all_goals first
    | (exfalso; omega)
    | exact ⟨ALe.pv PLe.nil⟩
theorem zlM (m : Model) (hl : Laid m) : zH Tryz.prog 16 [ag m.cells] (fun r => r = .pv (.sl 1 ((xr m).map q9))) := (c_Rooms0 m hl).weak fun r k => ⟨_, k.le, rfl⟩
end Go.Proofs.YtihpjcmloecaaaaGreat.Cw
namespace Go.Proofs.YtihpjcmloecaaaaGreat.Cw
open Go Go.Cw Go.Proofs
set_option linter.unusedVariables false
set_option maxRecDepth 100000
set_option maxHeartbeats 8000000
theorem zhG {m : Model} {x b : Int} : swB m x b = true ↔ zbz m x b := by unfold swB; simp
theorem ziv {κ : Type} {p : κ → Bool} : ∀ {D : List Bool} {l : List κ}, D.length = l.length → (∀ (j : Nat) y, D[j]? = some true → l[j]? = some y → p y = false) → (utk D l).filter p = l.filter p
 | [], [], _, _ => rfl
 | [], _ :: _, h, _ => by simp at h
 | _ :: _, [], h, _ => by simp at h
 | true :: D, y :: l, h, hp => by
   have h0 := hp 0 y rfl rfl
   have ih := ziv (p := p) (D := D) (l := l) (by simpa using h) fun j z h1 h2 => hp (j + 1) z (by simpa using h1) (by simpa using h2)
   show (utk D l).filter p = _
   rw [ih, List.filter_cons, h0]; rfl
 | false :: D, y :: l, h, hp => by
   have ih := ziv (p := p) (D := D) (l := l) (by simpa using h) fun j z h1 h2 => hp (j + 1) z (by simpa using h1) (by simpa using h2)
   show (y :: utk D l).filter p = _
   rw [List.filter_cons, List.filter_cons, ih]
theorem zlU {κ : Type} {p : κ → Bool} : ∀ {D E : List Bool} {l : List κ}, D.length = l.length → E.length = l.length → (∀ (j : Nat) d y, D[j]? = some d → l[j]? = some y → E[j]? = some (d || p y)) → utk E l = (utk D l).filter fun x => !p x
 | [], [], [], _, _, _ => rfl
 | [], _, _ :: _, h, _, _ => by simp at h
 | _ :: _, _, [], h, _, _ => by simp at h
 | _, [], _ :: _, _, h, _ => by simp at h
 | _, _ :: _, [], _, h, _ => by simp at h
 | d :: D, e :: E, y :: l, h1, h2, hp => by
   have ih := zlU (p := p) (D := D) (E := E) (l := l) (by simpa using h1) (by simpa using h2) fun j z w k1 k2 => by
    have := hp (j + 1) z w (by simpa using k1) (by simpa using k2)
    simpa using this
   have h0 := hp 0 d y rfl rfl
   simp only [List.getElem?_cons_zero, Option.some.injEq] at h0
   subst h0
   cases d <;> cases hpy : p y <;> simp [utk, ih, hpy]
noncomputable def dnL (m : Model) (V : List Int) (x : Int) (i k : Nat) (D : List Bool) : List Bool := D.mapIdx fun j d => d || (decide (i < j ∧ j < k) && swB m x (V.getD j 0))
section
variable {m : Model} {V : List Int} {x : Int} {i k : Nat} {D : List Bool}
theorem zia : (dnL m V x i k D).length = D.length := List.length_mapIdx
theorem zeR {j : Nat} {d : Bool} (h : D[j]? = some d) : (dnL m V x i k D)[j]? = some (d || (decide (i < j ∧ j < k) && swB m x (V.getD j 0))) := by
 unfold dnL; rw [List.getElem?_mapIdx, h]; rfl
theorem zg0 {j : Nat} (h : D[j]? = none) : (dnL m V x i k D)[j]? = none := by
 unfold dnL; rw [List.getElem?_mapIdx, h]; rfl
theorem dn_start : dnL m V x i (i + 1) D = D := by
 apply List.ext_getElem?
 intro j
 cases h : D[j]? with
 | none => rw [zg0 h]
 | some d =>
   rw [zeR h]
   have : decide (i < j ∧ j < i + 1) = false := decide_eq_false (by omega)
   rw [this]; simp
theorem dn_t {b : Int} (hb : V[k]? = some b) (hk : i < k) (hs : swB m x b = true) : dnL m V x i (k + 1) D = (dnL m V x i k D).set k true := by
 apply List.ext_getElem?
 intro j
 rw [List.getElem?_set]
 cases h : D[j]? with
 | none =>
   rw [zg0 h]
   split
   · rename_i e; subst e
     rw [if_neg]
     rw [zia]; have := List.getElem?_eq_none_iff.1 h; omega
   · rw [zg0 h]
 | some d =>
   rw [zeR h]
   split
   · rename_i e; subst e
     rw [if_pos (by rw [zia]; exact (List.getElem?_eq_some_iff.1 h).1)]
     have e1 : decide (i < k ∧ k < k + 1) = true := decide_eq_true ⟨hk, by omega⟩
     have e2 : V.getD k 0 = b := by rw [List.getD_eq_getElem?_getD, hb]; rfl
     rw [e1, e2, hs]; simp
   · rename_i e
     rw [zeR h]
     have e1 : decide (i < j ∧ j < k + 1) = decide (i < j ∧ j < k) := by
      congr 1; exact propext ⟨fun h => ⟨h.1, by omega⟩, fun h => ⟨h.1, by omega⟩⟩
     rw [e1]
theorem dn_f {b : Int} (hb : V[k]? = some b) (hs : swB m x b = false) : dnL m V x i (k + 1) D = dnL m V x i k D := by
 apply List.ext_getElem?
 intro j
 cases h : D[j]? with
 | none => rw [zg0 h, zg0 h]
 | some d =>
   rw [zeR h, zeR h]
   by_cases e : j = k
   · subst e
     have e2 : V.getD j 0 = b := by rw [List.getD_eq_getElem?_getD, hb]; rfl
     rw [e2, hs]; simp
   · have e1 : decide (i < j ∧ j < k + 1) = decide (i < j ∧ j < k) := by
      congr 1; exact propext ⟨fun h => ⟨h.1, by omega⟩, fun h => ⟨h.1, by omega⟩⟩
     rw [e1]
end
structure Rms (m : Model) (V : List Int) (i : Nat) (D : List Bool) (OUT : List (List Int)) : Prop where
 len : D.length = V.length
 out : OUT ++ zao m (utk (D.drop i) (V.drop i)).length (utk (D.drop i) (V.drop i)) = zao m V.length V
 many : OUT.length ≤ i
 done : ∀ k, i ≤ k → D[k]? = some true → ∃ (j : Nat) (y z : Int), j < i ∧ V[j]? = some y ∧ V[k]? = some z ∧ swB m y z = true ∧ ∀ (k' : Nat) (w : Int), j < k' → V[k']? = some w → swB m y w = true → D[k']? = some true
section
variable {m : Model} {V : List Int} {i : Nat} {D : List Bool} {OUT : List (List Int)}
theorem zn8 {κ : Type} : ∀ {l : List κ}, utk (List.replicate l.length false) l = l
 | [] => rfl
 | x :: l => by
   have ih := zn8 (l := l)
   show x :: utk (List.replicate l.length false) l = _
   rw [ih]
theorem Rms.start : Rms m V 0 (List.replicate V.length false) [] := by
 refine ⟨List.length_replicate, ?_, Nat.le_refl _, fun k _ h => ?_⟩
 · rw [List.drop_zero, List.drop_zero, zn8, List.nil_append]
 · have := List.getElem?_replicate (n := V.length) (a := false) (i := k)
   rw [this] at h
   split at h <;> simp at h
theorem Rms.skip {x : Int} (h : Rms m V i D OUT) (hx : V[i]? = some x) (hd : D[i]? = some true) : Rms m V (i + 1) D OUT := by
 refine ⟨h.len, ?_, by have := h.many; omega, fun k hk hkd => ?_⟩
 · have := h.out
   rw [zbu hx, zbu hd] at this
   exact this
 · obtain ⟨j, y, z, h1, h2⟩ := h.done k (by omega) hkd
   exact ⟨j, y, z, by omega, h2⟩
theorem Rms.take {x : Int} (hz : qJ m) (hg : zdQ m) (hV : V.Pairwise fun a b => a < b) (h : Rms m V i D OUT) (hx : V[i]? = some x) (hd : D[i]? = some false) :
  Rms m V (i + 1) (dnL m V x i V.length D) (OUT ++ if (V.drop (i + 1)).filter (swB m x) = [] then [] else [x :: (V.drop (i + 1)).filter (swB m x)]) := by
 have hlt : ∀ {j k : Nat} {y z : Int}, j < k → V[j]? = some y → V[k]? = some z → y < z := fun {j k y z} hjk h1 h2 => by
  obtain ⟨a1, rfl⟩ := List.getElem?_eq_some_iff.1 h1
  obtain ⟨a2, rfl⟩ := List.getElem?_eq_some_iff.1 h2
  exact List.pairwise_iff_getElem.1 hV j k a1 a2 hjk
 have hlen : (D.drop (i + 1)).length = (V.drop (i + 1)).length := by rw [List.length_drop, List.length_drop, h.len]
 have e1 : (utk (D.drop (i + 1)) (V.drop (i + 1))).filter (swB m x) = (V.drop (i + 1)).filter (swB m x) := by
  refine ziv hlen fun j y hj hy => ?_
  rw [List.getElem?_drop] at hj hy
  obtain ⟨j', y', z', k1, k2, k3, k4, k5⟩ := h.done (i + 1 + j) (by omega) hj
  rw [hy] at k3; cases k3
  cases hs : swB m x y with
  | false => rfl
  | true =>
    exfalso
    have t1 : zbz m y' y := zhG.1 k4
    have t2 : zbz m x y := zhG.1 hs
    have l1 := hlt k1 k2 hx
    have l2 := hlt (by omega : i < i + 1 + j) hx hy
    have t3 := zhE hz hg (by omega) (by omega) (by omega) t1 t2
    have := k5 i x k1 hx (zhG.2 t3)
    rw [hd] at this; cases this
 have e2 : utk ((dnL m V x i V.length D).drop (i + 1)) (V.drop (i + 1)) = (utk (D.drop (i + 1)) (V.drop (i + 1))).filter fun b => !swB m x b := by
  refine zlU hlen (by rw [List.length_drop, zia, List.length_drop, h.len]) fun j d y h1 h2 => ?_
  rw [List.getElem?_drop] at h1 h2 ⊢
  rw [zeR h1]
  have a1 : decide (i < i + 1 + j ∧ i + 1 + j < V.length) = true := decide_eq_true ⟨by omega, (List.getElem?_eq_some_iff.1 h2).1⟩
  have a2 : V.getD (i + 1 + j) 0 = y := by rw [List.getD_eq_getElem?_getD, h2]; rfl
  rw [a1, a2]; simp
 refine ⟨by rw [zia, h.len], ?_, ?_, fun k hk hkd => ?_⟩
 · have ho := h.out
   rw [zbu hx, zbu hd] at ho
   have hu : utk (false :: D.drop (i + 1)) (x :: V.drop (i + 1)) = x :: utk (D.drop (i + 1)) (V.drop (i + 1)) := rfl
   rw [hu] at ho
   rw [e2, ← ho, ← e1]
   generalize utk (D.drop (i + 1)) (V.drop (i + 1)) = R
   rw [List.append_assoc]
   congr 1
   show _ = (if R.filter (swB m x) = [] then [] else [x :: R.filter (swB m x)]) ++ zao m R.length (R.filter fun b => !swB m x b)
   rw [zgk (n := R.length) (List.length_filter_le ..) (Nat.le_refl _)]
 · have := h.many
   split <;> simp <;> omega
 · obtain ⟨d, hdk⟩ := qj (show k < D.length by have := (List.getElem?_eq_some_iff.1 hkd).1; rw [zia] at this; exact this)
   obtain ⟨z, hz'⟩ := qj (show k < V.length by rw [← h.len]; exact (List.getElem?_eq_some_iff.1 hdk).1)
   rw [zeR hdk] at hkd
   have hmono : ∀ k', D[k']? = some true → (dnL m V x i V.length D)[k']? = some true := fun k' hk' => by rw [zeR hk']; rfl
   cases d with
   | true =>
     obtain ⟨j, y, z2, h1, h2, h3, h4, h5⟩ := h.done k (by omega) hdk
     exact ⟨j, y, z2, by omega, h2, h3, h4, fun k' w a1 a2 a3 => hmono k' (h5 k' w a1 a2 a3)⟩
   | false =>
     have a2 : V.getD k 0 = z := by rw [List.getD_eq_getElem?_getD, hz']; rfl
     rw [a2] at hkd
     simp at hkd
     refine ⟨i, x, z, by omega, hx, hz', hkd.2, fun k' w b1 b2 b3 => ?_⟩
     obtain ⟨d', hd'⟩ := qj (show k' < D.length by rw [h.len]; exact (List.getElem?_eq_some_iff.1 b2).1)
     have c2 : V.getD k' 0 = w := by rw [List.getD_eq_getElem?_getD, b2]; rfl
     have c1 : decide (i < k' ∧ k' < V.length) = true := decide_eq_true ⟨b1, (List.getElem?_eq_some_iff.1 b2).1⟩
     rw [zeR hd', c1, c2, b3]; simp
theorem Rms.all (h : Rms m V V.length D OUT) : OUT = zao m V.length V := by
 have := h.out
 rw [List.drop_length, List.drop_of_length_le (by rw [h.len]; exact Nat.le_refl _)] at this
 have e : utk ([] : List Bool) ([] : List Int) = [] := rfl
 rw [e, zet, List.append_nil] at this
 exact this
end
end Go.Proofs.YtihpjcmloecaaaaGreat.Cw
namespace Go.Proofs.YtihpjcmloecaaaaGreat.Cw
open Go Go.Cw Go.Proofs
set_option linter.unusedVariables false
set_option maxRecDepth 100000
set_option maxHeartbeats 8000000
theorem sub_next {V : List Int} {i k : Nat} {b : Int} (hb : V[k]? = some b) (hk : i < k) : (V.take (k + 1)).drop (i + 1) = (V.take k).drop (i + 1) ++ [b] := by
 have hkl := (List.getElem?_eq_some_iff.1 hb).1
 rw [xS hb, List.drop_append_of_le_length (by rw [List.length_take]; omega)]
theorem zpz (m : Model) (hl : Laid m) : zH Tryz.prog 17 [ag m.cells] (fun r => Leq r (.pv (.sl 1 ((xr m).map q9)))) := by
 have hv := zje m hl
 by_cases hok : qx m = 0
 · have hz := qP hok
   have hg := zak hok
   have hus := c_used m hz
   have hVl := zaQ hz
   have hVs := xv m
   have e : xr m = zao m (zS m).length (zS m) := if_pos hok
   have hst := Rms.start (m := m) (V := zS m)
   rw [e]
   rw [hok] at hv
   generalize zS m = V at *
   have hex : ∀ {i k : Nat} {x b : Int}, i < k → V[i]? = some x → V[k]? = some b → pB (exP m x b) = swB m x b := fun {i k x b} hik hx hb => by
    have h1 := ((hVs.1 x).1 (List.mem_of_getElem? hx)).1
    have h2 := ((hVs.1 b).1 (List.mem_of_getElem? hb)).1
    obtain ⟨a1, a2⟩ := List.getElem?_eq_some_iff.1 hx
    obtain ⟨b1, b2⟩ := List.getElem?_eq_some_iff.1 hb
    have h3 := List.pairwise_iff_getElem.1 hVs.2 i k a1 b1 hik
    rw [a2, b2] at h3
    exact zgG ⟨fun h => h.2.2.2.2, fun h => ⟨hok, by omega, h1, h2, h⟩⟩
   refine zh tok mixed 74 rfl (fn := Tryz.f17) (c := Tryz.f17.body.getD .skip) (by kernel_rfl) (by kernel_rfl) (by kernel_rfl) rfl 0 rfl ?_
   repeat' (first | ((change zp _ _ _ _ _; refine qw rfl (by repeat' (first | trivial | refine And.intro ?_ ?_ | (show 0 + _ ≤ List.length _; simp))) zW.refl hus ?_; rintro _ rfl)) | (refine ⟨V.length, V.length, rfl, rfl, Nat.le_refl _, (by omega), (by omega), ?_⟩) | (refine zi ((List.replicate V.length false).map xM) (by rw [List.map_replicate]; rfl) ?_) | refine o1 ?_ | refine o2 ?_ | refine k1 ?_ | refine k2 ?_ | refine k3 ?_ | refine k4 ?_ | refine k6 ?_ | refine And.intro ?_ ?_ | (intro h; first | exact Bool.noConfusion h | exact nz _ h | exact nl h | (simp at h; done) | (simp at h; first | (exfalso; omega) | skip) | skip) | exact (by kernel_rfl : zn _ _ = true) | refine za ?_ | (change zp _ _ _ _ _; refine zC rfl (by repeat' (first | trivial | refine And.intro ?_ ?_ | (show 0 + _ ≤ List.length _; simp))) zW.refl (hv) rfl ?_) | fail)
   refine zB (fun x : Nat × List Bool × List (List Int) => [(1, .ptr 0 4 0 0), (3, .pv (.sl 1 (V.map zr))), (4, .ms 1 1 0 V.length), (5, slP 2 1 (x.2.2.map q9)), (6, zg .i64 x.1)])
    (fun x => [some ⟨29, 4, false, .box (pvs m.cells)⟩, some ⟨4, 1, false, .p (x.2.1.map xM)⟩, obP 22 1 (x.2.2.map q9)])
    (fun x => x.1 ≤ V.length ∧ Rms m V x.1 x.2.1 x.2.2) (fun x => V.length - x.1) (0, List.replicate V.length false, []) ⟨Nat.zero_le _, hst⟩ ?_ ?_
   · exact zJ [0, 1, 2] rfl rfl (by repeat' (first | exact trivial | exact rfl | refine And.intro ?_ ?_)) (by repeat' (first | exact trivial | exact rfl | refine And.intro ?_ ?_))
   rintro ⟨i, D, OUT⟩ ⟨hi, hR⟩
   dsimp only at hi hR ⊢
   have hDl := hR.len
   have hOl : OUT.length ≤ 576 := by have := hR.many; omega
   rcases Nat.lt_or_ge i V.length with hlt | hge
   · obtain ⟨x, hx⟩ := qj hlt
     obtain ⟨d, hd⟩ := qj (show i < D.length by omega)
     have hdr : (D.map xM)[i]? = some (xM d) := zf hd
     cases d with
     | true =>
       have hsk := hR.skip hx hd
       repeat' (first | (refine z6 ?_) | (refine qp i rfl hlt ?_) | (refine ⟨_, hdr, ?_⟩) | refine o1 ?_ | refine o2 ?_ | refine k1 ?_ | refine k2 ?_ | refine k3 ?_ | refine k4 ?_ | refine k6 ?_ | refine k8 ?_ | refine And.intro ?_ ?_ | (intro h; first | exact Bool.noConfusion h | exact nz _ h | exact nl h | (simp at h; done) | (simp at h; first | (exfalso; omega) | skip) | skip) | refine za ?_ | refine zL ?_ | refine zc (by omega) (by omega) ?_ | fail)
       all_goals first
        | exact ⟨(i + 1, D, OUT), ⟨by dsimp only; omega, hsk⟩, by dsimp only; omega, zJ [0, 1, 2] rfl rfl (by repeat' (first | exact trivial | exact rfl | refine zu rfl ?_ | refine And.intro ?_ ?_)) (by repeat' (first | exact trivial | exact rfl | exact zG rfl | refine And.intro ?_ ?_))⟩
     | false =>
       have htk := hR.take hz hg hVs.2 hx hd
       repeat' (first | (refine z6 ?_) | (refine qp i rfl hlt ?_) | (refine ⟨_, hdr, ?_⟩) | (refine zj (k := i) (zf hx) rfl ?_) | refine o1 ?_ | refine o2 ?_ | refine k1 ?_ | refine k2 ?_ | refine k3 ?_ | refine k4 ?_ | refine k6 ?_ | refine And.intro ?_ ?_ | (intro h; first | exact Bool.noConfusion h | exact nz _ h | exact nl h | (simp at h; done) | (simp at h; first | (exfalso; omega) | skip) | skip) | refine za ?_ | refine zL ?_ | refine zc (by omega) (by omega) ?_ | fail)
       refine zB (fun k : Nat => [(1, .ptr 0 4 0 0), (3, .pv (.sl 1 (V.map zr))), (4, .ms 1 1 0 V.length), (5, slP 2 1 (OUT.map q9)), (6, zg .i64 i), (7, .ms 3 1 0 ((((V.take k).drop (i + 1)).filter (swB m x)).length + 1)), (8, zg .i64 k)])
        (fun k => [some ⟨29, 4, false, .box (pvs m.cells)⟩, some ⟨4, 1, false, .p ((dnL m V x i k D).map xM)⟩, obP 22 1 (OUT.map q9), some ⟨3, 1, false, .p ((x :: ((V.take k).drop (i + 1)).filter (swB m x)).map zr)⟩])
        (fun k => i + 1 ≤ k ∧ k ≤ V.length) (fun k => V.length - k) (i + 1) ⟨Nat.le_refl _, hlt⟩ ?_ ?_
       · rw [dn_start, show (V.take (i + 1)).drop (i + 1) = [] from List.drop_of_length_le (by rw [List.length_take]; omega)]
         exact zJ [0, 1, 2, 3] rfl rfl (by repeat' (first | exact trivial | exact rfl | refine zu rfl ?_ | refine And.intro ?_ ?_)) (by repeat' (first | exact trivial | exact rfl | exact zG rfl | refine And.intro ?_ ?_))
       intro k ⟨hk1, hk2⟩
       rcases Nat.lt_or_ge k V.length with hkl | hkg
       · obtain ⟨b, hb⟩ := qj hkl
         have hsw := c_rSwap m x b hl
         rw [hex (by omega) hx hb] at hsw
         have hF := sub_next hb (by omega : i < k)
         have hFl : (((V.take k).drop (i + 1)).filter (swB m x)).length ≤ 576 := by
          have h1 := List.length_filter_le (swB m x) ((V.take k).drop (i + 1))
          rw [List.length_drop, List.length_take] at h1; omega
         have hDk : (dnL m V x i k D).length = V.length := by rw [zia]; exact hDl
         cases hs : swB m x b with
         | true =>
           have hdn := dn_t (D := D) hb (by omega : i < k) hs
           rw [hs] at hsw
           have hF1 : ((V.take (k + 1)).drop (i + 1)).filter (swB m x) = ((V.take k).drop (i + 1)).filter (swB m x) ++ [b] := by rw [hF, List.filter_append]; simp [hs]
           generalize ((V.take k).drop (i + 1)).filter (swB m x) = F at *
           generalize dnL m V x i k D = DK at *
           obtain ⟨t, ht⟩ := qj (show k < DK.length by omega)
           have htr : (DK.map xM)[k]? = some (xM t) := zf ht
           have hsr : (DK.map xM).set k [.val (.bool true)] = (DK.set k true).map xM := by rw [List.map_set]; rfl
           repeat' (first | (refine z6 ?_) | (refine zj (k := i) (zf hx) rfl ?_) | (refine zj (k := k) (zf hb) rfl ?_) | ((change zI _ _ _ _ _; refine zF rfl (by repeat' (first | trivial | refine And.intro ?_ ?_ | (show 0 + _ ≤ List.length _; simp))) zW.refl hsw rfl ?_)) | (refine qp k rfl hkl ?_) | (refine ⟨_, htr, ?_⟩) | (refine zi _ hsr ?_) | ((show zb _ * _ ≤ _; simp [zb] at *; omega)) | ((show zb _ ≤ _; simp [zb] at *; omega)) | refine o1 ?_ | refine o2 ?_ | refine k1 ?_ | refine k2 ?_ | refine k3 ?_ | refine k4 ?_ | refine k6 ?_ | refine And.intro ?_ ?_ | refine o3 ?_ | refine o4 ?_ | (intro h; first | exact Bool.noConfusion h | exact nz _ h | exact nl h | (simp at h; done) | (simp at h; first | (exfalso; omega) | skip) | skip) | (refine (?_ : z8 _ = zb _); rfl) | exact Nat.le_of_ble_eq_true rfl | exact (by kernel_rfl : zn _ _ = true) | refine za ?_ | refine zL ?_ | refine zc (by omega) (by omega) ?_ | (refine (?_ : _ = zb _); simp [zb] <;> omega) | refine zi _ (qK rfl) (zi _ qY ?_) | fail)
           refine ⟨k + 1, ⟨by omega, by omega⟩, by omega, ?_⟩
           rw [hdn, hF1]
           exact zJ [0, 1, 2, 5] rfl rfl (by repeat' (first | exact trivial | exact rfl | refine zu rfl ?_ | refine And.intro ?_ ?_)) (by repeat' (first | exact trivial | exact rfl | exact zG rfl | refine And.intro ?_ ?_))
         | false =>
           have hdn := dn_f (D := D) (i := i) hb hs
           rw [hs] at hsw
           have hF1 : ((V.take (k + 1)).drop (i + 1)).filter (swB m x) = ((V.take k).drop (i + 1)).filter (swB m x) := by rw [hF, List.filter_append]; simp [hs]
           repeat' (first | (refine z6 ?_) | (refine zj (k := i) (zf hx) rfl ?_) | (refine zj (k := k) (zf hb) rfl ?_) | ((change zI _ _ _ _ _; refine zF rfl (by repeat' (first | trivial | refine And.intro ?_ ?_ | (show 0 + _ ≤ List.length _; simp))) zW.refl hsw rfl ?_)) | refine o1 ?_ | refine o2 ?_ | refine k1 ?_ | refine k2 ?_ | refine k3 ?_ | refine k4 ?_ | refine k6 ?_ | refine And.intro ?_ ?_ | refine o3 ?_ | refine o4 ?_ | (intro h; first | exact Bool.noConfusion h | exact nz _ h | exact nl h | (simp at h; done) | (simp at h; first | (exfalso; omega) | skip) | skip) | exact (by kernel_rfl : zn _ _ = true) | refine za ?_ | refine zc (by omega) (by omega) ?_ | fail)
           all_goals first
            | (refine ⟨k + 1, ⟨by omega, by omega⟩, by omega, ?_⟩
               rw [hdn, hF1]
               exact zJ [0, 1, 2, 3] rfl rfl (by repeat' (first | exact trivial | exact rfl | refine zu rfl ?_ | refine And.intro ?_ ?_)) (by repeat' (first | exact trivial | exact rfl | exact zG rfl | refine And.intro ?_ ?_)))
       · obtain rfl : k = V.length := by omega
         rw [List.take_length]
         generalize (V.drop (i + 1)).filter (swB m x) = F at *
         generalize dnL m V x i V.length D = DK at *
         refine zq ?_
         refine qh (Γ' := [(1, .ptr 0 4 0 0), (3, .pv (.sl 1 (V.map zr))), (4, .ms 1 1 0 V.length), (5, slP 2 1 (OUT.map q9)), (6, zg .i64 i), (7, .pv (.sl 1 ((x :: F).map zr))), (8, zg .i64 V.length)]) (H' := [some ⟨29, 4, false, .box (pvs m.cells)⟩, some ⟨4, 1, false, .p (DK.map xM)⟩, obP 22 1 (OUT.map q9)]) (zD.trans (zD.freeze (s := 7) rfl rfl (by repeat' (first | (show 0 + _ ≤ List.length _; simp)))) (zD.trans (zD.weak (s := 7) rfl (ALe.pv (zei (f := zr) (l := x :: F) (Nat.le_refl _)))) (zJ [0, 1, 2] rfl rfl (by repeat' (first | exact trivial | exact rfl | refine zu rfl ?_ | refine And.intro ?_ ?_)) (by repeat' (first | exact trivial | exact rfl | exact zG rfl | refine And.intro ?_ ?_))))) ?_
         rcases F with _ | ⟨a, F⟩
         · repeat' (first | refine o1 ?_ | refine o2 ?_ | refine k1 ?_ | refine k2 ?_ | refine k3 ?_ | refine k6 ?_ | refine k8 ?_ | refine And.intro ?_ ?_ | (intro h; first | exact Bool.noConfusion h | exact nz _ h | exact nl h | (simp at h; done) | (simp at h; first | (exfalso; omega) | skip) | skip) | refine za ?_ | refine zc (by omega) (by omega) ?_ | fail)
           all_goals first
            | (exfalso; omega)
            | exact ⟨(i + 1, DK, OUT), ⟨by dsimp only; omega, by simpa using htk⟩, by dsimp only; omega, zJ [0, 1, 2] rfl rfl (by repeat' (first | exact trivial | exact rfl | refine zu rfl ?_ | refine And.intro ?_ ?_)) (by repeat' (first | exact trivial | exact rfl | exact zG rfl | refine And.intro ?_ ?_))⟩
         · repeat' (first | (refine xl ?_) | (refine z6 ?_) | ((refine zbB rfl rfl rfl rfl rfl rfl rfl rfl rfl rfl rfl (by rw [List.length_map]; omega) (by rw [List.length_map]; omega) ?_)) | refine o1 ?_ | refine o2 ?_ | refine k1 ?_ | refine k2 ?_ | refine k3 ?_ | refine k8 ?_ | refine And.intro ?_ ?_ | (intro h; first | exact Bool.noConfusion h | exact nz _ h | exact nl h | (simp at h; done) | (simp at h; first | (exfalso; omega) | skip) | skip) | refine za ?_ | refine zc (by omega) (by omega) ?_ | fail)
           all_goals first
            | (exfalso; omega)
            | (refine ⟨(i + 1, DK, OUT ++ [x :: a :: F]), ⟨by dsimp only; omega, by simpa using htk⟩, by dsimp only; omega, ?_⟩
               dsimp only
               rw [zM, qn, qo]
               exact zJ [0, 1, 4] rfl rfl (by repeat' (first | exact trivial | exact rfl | refine And.intro ?_ ?_)) (by repeat' (first | exact trivial | exact rfl | refine And.intro ?_ ?_)))
   · obtain rfl : i = V.length := by omega
     rw [← hR.all]
     repeat' (first | (refine xl ?_) | (refine z6 ?_) | refine o1 ?_ | refine o2 ?_ | refine k1 ?_ | refine k2 ?_ | refine k3 ?_ | refine k7 ?_ | refine k8 ?_ | refine And.intro ?_ ?_ | (intro h; first | exact Bool.noConfusion h | exact nz _ h | exact nl h | (simp at h; done) | (simp at h; first | (exfalso; omega) | skip) | skip) | refine za ?_ | fail)
     exact zon rfl ⟨ALe.refl⟩ ziV
 · have e : xr m = [] := if_neg hok
   rw [e]
   generalize qx m = E at hv hok
   refine zh tok mixed 74 rfl (fn := Tryz.f17) (c := Tryz.f17.body.getD .skip) (by kernel_rfl) (by kernel_rfl) (by kernel_rfl) rfl 0 rfl ?_
   repeat' (first | refine o1 ?_ | refine o2 ?_ | refine k1 ?_ | refine k2 ?_ | refine k3 ?_ | refine k7 ?_ | refine And.intro ?_ ?_ | (intro h; first | exact Bool.noConfusion h | exact nz _ h | exact nl h | (simp at h; done) | (simp at h; first | (exfalso; omega) | skip) | skip) | (change zx _ _ _ _; refine zd rfl trivial ?_) | (change zp _ _ _ _ _; refine zC rfl (by repeat' (first | trivial | refine And.intro ?_ ?_ | (show 0 + _ ≤ List.length _; simp))) zW.refl (hv) rfl ?_) | fail)
   all_goals first
    | (exfalso; omega)
    | exact ⟨ALe.pv PLe.nil⟩
theorem c_rRooms (m : Model) (hl : Laid m) : zH Tryz.prog 17 [ag m.cells] (fun r => r = .pv (.sl 1 ((xr m).map q9))) := (zpz m hl).weak fun r k => ⟨_, k.le, rfl⟩
end Go.Proofs.YtihpjcmloecaaaaGreat.Cw
namespace Go.Proofs.YtihpjcmloecaaaaGreat.Cw
open Go Go.Cw Go.Proofs
set_option linter.unusedVariables false
set_option maxRecDepth 100000
set_option maxHeartbeats 8000000
theorem zlE (l : List Int) (hl : l.length ≤ 100000) : zH Tryz.prog 21 [.pv (.sl 1 (l.map zr)), .pv (.sl 1 (l.map zr))] (fun r => r = zo true) := znO l hl
theorem zgl {m : Model} : ∀ {n : Nat} {l : List Int}, (zao m n l).length ≤ l.length ∧ ∀ s ∈ zao m n l, s.length ≤ l.length
 | 0, l => ⟨Nat.zero_le _, by simp [zao]⟩
 | n + 1, [] => ⟨Nat.zero_le _, by simp [zao]⟩
 | n + 1, x :: l => by
   obtain ⟨h1, h2⟩ := zgl (m := m) (n := n) (l := l.filter fun b => !swB m x b)
   have h3 := List.length_filter_le (fun b => !swB m x b) l
   have h4 := List.length_filter_le (swB m x) l
   unfold zao
   split
   · rw [List.nil_append]
     refine ⟨by simp only [List.length_cons]; omega, fun s hs => ?_⟩
     have := h2 s hs
     simp only [List.length_cons]; omega
   · refine ⟨by simp only [List.length_append, List.length_cons, List.length_nil]; omega, fun s hs => ?_⟩
     rcases List.mem_append.1 hs with hs | hs
     · simp at hs; subst hs; simp only [List.length_cons]; omega
     · have := h2 s hs
       simp only [List.length_cons]; omega
theorem zoh {m : Model} : (xr m).length ≤ 576 ∧ ∀ s ∈ xr m, s.length ≤ 576 := by
 unfold xr
 split
 · rename_i h
   have h1 := zaQ (qP h)
   obtain ⟨h2, h3⟩ := zgl (m := m) (n := (zS m).length) (l := zS m)
   exact ⟨by omega, fun s hs => by have := h3 s hs; omega⟩
 · exact ⟨by simp, by simp⟩
end Go.Proofs.YtihpjcmloecaaaaGreat.Cw
namespace Go.Proofs.YtihpjcmloecaaaaGreat.Cw
open Go.Cw Go.Proofs
set_option linter.unusedVariables false
set_option maxRecDepth 100000
set_option maxHeartbeats 1600000
def plc (m : Model) (plan : List Int) (i : Nat) : Option Placed := match m.classes[i]?, plan[i]? with
 | some l, some o => (l[o.toNat]?).map Opt.place
 | _, _ => none
def placesTo (m : Model) (plan : List Int) (n : Nat) : List Placed := (List.range n).filterMap (plc m plan)
noncomputable def placesV (m : Model) (plan : List Int) : List Placed := if zpj m plan = 0 then placesTo m plan plan.length else []
def mbox (m : Model) : Option AObj := some ⟨29, 4, false, .box [.pv (.sl 1 (m.classes.map zA)), .pv (.sl 4 (m.pairs.map Pair.row)), .pv (.sl 4 (m.counts.map Count.row)), zg .i64 m.rules]⟩
end Go.Proofs.YtihpjcmloecaaaaGreat.Cw
namespace Go.Proofs.YtihpjcmloecaaaaGreat.Cw
open Go Go.Cw Go.Proofs
set_option linter.unusedVariables false
set_option maxRecDepth 100000
set_option maxHeartbeats 8000000
noncomputable def zhL (S : List (List Int)) (r : Int) : List Int := (S.find? fun s => pB (r ∈ s)).getD []
theorem zhy {α : Type} {f : α → Bool} {l : List α} {i : Nat} {x : α} (h : ∀ j, j < i → ∀ y, l[j]? = some y → f y = false) (hx : l[i]? = some x) (hf : f x = true) : l.find? f = some x := by
 induction l generalizing i with
 | nil => simp at hx
 | cons a l ih =>
   cases i with
   | zero => simp at hx; subst hx; rw [List.find?_cons, hf]
   | succ i =>
     rw [List.find?_cons, h 0 (by omega) a rfl]
     exact ih (i := i) (fun j hj y hy => h (j + 1) (Nat.succ_lt_succ hj) y (by simpa using hy)) (by simpa using hx)
theorem zi3 {α : Type} {f : α → Bool} {l : List α} (h : ∀ j, j < l.length → ∀ y, l[j]? = some y → f y = false) : l.find? f = none := by
 rw [List.find?_eq_none]
 intro x hx
 obtain ⟨j, hj⟩ := List.getElem?_of_mem hx
 rw [h j (List.getElem?_eq_some_iff.1 hj).1 x hj]; decide
theorem c_setOf0 (S : List (List Int)) (r : Int) (hS : S.length ≤ 100000) (hs : ∀ s ∈ S, s.length ≤ 100000) : zH Tryz.prog 47 [.pv (.sl 1 (S.map q9)), zg .i64 r] (fun x => Leq x (.pv (.sl 1 ((zhL S r).map zr)))) := by
 refine zh tok mixed 18 rfl (fn := Tryz.f47) (c := Tryz.f47.body.getD .skip) (by kernel_rfl) (by kernel_rfl) (by kernel_rfl) rfl 0 rfl ?_
 repeat' (first | refine o1 ?_ | refine o2 ?_ | refine k1 ?_ | refine k2 ?_ | refine k4 ?_ | refine za ?_ | fail)
 refine zB (fun i : Nat => [(1, zg .i64 r), (7, .pv (.sl 1 (S.map q9))), (8, zg .i64 S.length), (9, zg .i64 i)]) (fun _ => [])
  (fun i => i ≤ S.length ∧ ∀ j, j < i → ∀ y, S[j]? = some y → pB (r ∈ y) = false) (fun i => S.length - i) 0 ⟨Nat.zero_le _, fun j hj => absurd hj (Nat.not_lt_zero _)⟩ ?_ ?_
 · exact zJ [] rfl rfl trivial (by repeat' (first | exact trivial | exact rfl | refine And.intro ?_ ?_))
 rintro i ⟨hi, hn⟩
 rcases Nat.lt_or_ge i S.length with hlt | hge
 · obtain ⟨s, hs1⟩ := qj hlt
   have hc := zhg s r (hs s (List.mem_of_getElem? hs1))
   cases hb : pB (r ∈ s)
   · rw [hb] at hc
     repeat' (first | (refine zj (k := i) (zf hs1) (by omega) ?_) | refine o1 ?_ | refine o2 ?_ | refine k1 ?_ | refine k2 ?_ | refine k3 ?_ | refine k4 ?_ | refine k6 ?_ | refine And.intro ?_ ?_ | (intro h; first | exact Bool.noConfusion h | exact nz _ h | exact nl h | (simp at h; done) | (simp at h; first | (exfalso; omega) | skip) | skip) | refine zc (by omega) (by omega) ?_ | (change zp _ _ _ _ _; refine zC rfl (by repeat' (first | trivial | refine And.intro ?_ ?_ | (show 0 + _ ≤ List.length _; simp))) zW.refl (hc) rfl ?_) | fail)
     all_goals first
      | (exfalso; omega)
      | exact ⟨i + 1, ⟨by omega, fun j hj y hy => by
         rcases Nat.lt_or_ge j i with h1 | h1
         · exact hn j h1 y hy
         · obtain rfl : j = i := by omega
           rw [hs1] at hy; cases hy; exact hb⟩, by omega, zJ [] rfl rfl trivial (by repeat' (first | exact trivial | exact rfl | refine And.intro ?_ ?_))⟩
   · rw [hb] at hc
     have e : zhL S r = s := by unfold zhL; rw [zhy hn hs1 hb]; rfl
     rw [e]
     repeat' (first | (refine zj (k := i) (zf hs1) (by omega) ?_) | refine o1 ?_ | refine o2 ?_ | refine k1 ?_ | refine k2 ?_ | refine k3 ?_ | refine k4 ?_ | refine k6 ?_ | refine k7 ?_ | refine And.intro ?_ ?_ | (intro h; first | exact Bool.noConfusion h | exact nz _ h | exact nl h | (simp at h; done) | (simp at h; first | (exfalso; omega) | skip) | skip) | (change zx _ _ _ _; refine zd rfl trivial ?_) | (change zp _ _ _ _ _; refine zC rfl (by repeat' (first | trivial | refine And.intro ?_ ?_ | (show 0 + _ ≤ List.length _; simp))) zW.refl (hc) rfl ?_) | fail)
     all_goals first
      | (exfalso; omega)
      | exact ⟨ALe.refl⟩
 · have e : zhL S r = [] := by unfold zhL; rw [zi3 fun j hj => hn j (by omega)]; rfl
   rw [e]
   repeat' (first | refine o1 ?_ | refine o2 ?_ | refine k1 ?_ | refine k2 ?_ | refine k3 ?_ | refine k7 ?_ | refine k8 ?_ | refine And.intro ?_ ?_ | (intro h; first | exact Bool.noConfusion h | exact nz _ h | exact nl h | (simp at h; done) | (simp at h; first | (exfalso; omega) | skip) | skip) | (change zx _ _ _ _; refine zd rfl trivial ?_) | fail)
   all_goals first
    | (exfalso; omega)
    | exact ⟨ALe.pv PLe.nil⟩
theorem c_setOf (S : List (List Int)) (r : Int) (hS : S.length ≤ 100000) (hs : ∀ s ∈ S, s.length ≤ 100000) : zH Tryz.prog 47 [.pv (.sl 1 (S.map q9)), zg .i64 r] (fun x => x = .pv (.sl 1 ((zhL S r).map zr))) := (c_setOf0 S r hS hs).weak fun r k => ⟨_, k.le, rfl⟩
def zgT (m : Model) (plan : List Int) : Prop := plan.length = m.classes.length ∧ ∀ j : Nat, j < plan.length → ∀ o l, plan[j]? = some o → m.classes[j]? = some l → -1 ≤ o ∧ o < l.length
theorem c_isPlan (m : Model) (plan : List Int) (hz : qJ m) : zH Tryz.prog 43 [ag m.cells, .pv (qV plan)] (fun r => r = zo (pB (zgT m plan))) := by
 refine zh tok mixed 33 rfl (fn := Tryz.f43) (c := Tryz.f43.body.getD .skip) (by kernel_rfl) (by kernel_rfl) (by kernel_rfl) rfl 0 rfl ?_
 have hcn := hz.1
 repeat' (first | refine o1 ?_ | refine o2 ?_ | refine k1 ?_ | refine k2 ?_ | refine k3 ?_ | refine k4 ?_ | refine k6 ?_ | refine k7 ?_ | refine And.intro ?_ ?_ | (intro h; first | exact Bool.noConfusion h | exact nz _ h | exact nl h | (simp at h; done) | (simp at h; first | (exfalso; omega) | skip) | skip) | (change zx _ _ _ _; refine zd rfl trivial ?_) | refine za ?_ | fail)
 all_goals first
  | exact congrArg zo (zaj fun h => by have := h.1; omega).symm
  | skip
 have hpl : plan.length = m.classes.length := by omega
 refine zB (fun i : Nat => [(2, .ptr 0 4 0 0), (13, .pv (qV plan)), (14, zg .i64 plan.length), (15, zg .i64 i)]) (fun _ => [some ⟨29, 4, false, .box [.pv (.sl 1 (m.classes.map zA)), .pv (.sl 4 (m.pairs.map Pair.row)), .pv (.sl 4 (m.counts.map Count.row)), .pv (ei m.rules)]⟩])
  (fun i => i ≤ plan.length ∧ ∀ j : Nat, j < i → ∀ o l, plan[j]? = some o → m.classes[j]? = some l → -1 ≤ o ∧ o < l.length) (fun i => plan.length - i) 0 ⟨Nat.zero_le _, fun j hj => absurd hj (Nat.not_lt_zero _)⟩ ?_ ?_
 · exact zJ [0] rfl rfl (by repeat' (first | exact trivial | exact rfl | refine And.intro ?_ ?_)) (by repeat' (first | exact trivial | exact rfl | refine And.intro ?_ ?_))
 rintro i ⟨hi, hall⟩
 rcases Nat.lt_or_ge i plan.length with hlt | hge
 · obtain ⟨o, ho⟩ := qj hlt
   obtain ⟨l, hl⟩ := qj (l := m.classes) (i := i) (by omega)
   have hln := hz.2.1 l (List.mem_of_getElem? hl)
   have hstep : -1 ≤ o → o < l.length → ∀ j : Nat, j < i + 1 → ∀ o l, plan[j]? = some o → m.classes[j]? = some l → -1 ≤ o ∧ o < l.length := fun h1 h2 j hj o' l' ho' hl' => by
    rcases Nat.lt_or_ge j i with h3 | h3
    · exact hall j h3 o' l' ho' hl'
    · obtain rfl : j = i := by omega
      rw [ho] at ho'; rw [hl] at hl'; cases ho'; cases hl'; exact ⟨h1, h2⟩
   repeat' (first | (refine zj (k := i) (zf ho) (by omega) ?_) | (refine zj (k := i) (zf hl) (by omega) ?_) | refine o1 ?_ | refine o2 ?_ | refine k1 ?_ | refine k2 ?_ | refine k3 ?_ | refine k4 ?_ | refine k6 ?_ | refine k7 ?_ | refine And.intro ?_ ?_ | (intro h; first | exact Bool.noConfusion h | exact nz _ h | exact nl h | (simp at h; done) | (simp at h; first | (exfalso; omega) | skip) | skip) | (change zx _ _ _ _; refine zd rfl trivial ?_) | refine za ?_ | refine zc (by omega) (by omega) ?_ | fail)
   all_goals first
    | (refine congrArg zo (zaj fun h => ?_).symm; have := h.2 i hlt o l ho hl; omega)
    | exact ⟨i + 1, ⟨by omega, hstep (by omega) (by omega)⟩, by omega, zJ [0] rfl rfl (by repeat' (first | exact trivial | exact rfl | refine And.intro ?_ ?_)) (by repeat' (first | exact trivial | exact rfl | refine And.intro ?_ ?_))⟩
 · repeat' (first | refine o1 ?_ | refine o2 ?_ | refine k1 ?_ | refine k2 ?_ | refine k3 ?_ | refine k7 ?_ | refine k8 ?_ | refine And.intro ?_ ?_ | (intro h; first | exact Bool.noConfusion h | exact nz _ h | exact nl h | (simp at h; done) | (simp at h; first | (exfalso; omega) | skip) | skip) | (change zx _ _ _ _; refine zd rfl trivial ?_) | fail)
   all_goals first
    | exact congrArg zo (zaS ⟨hpl, fun j hj => hall j (by omega)⟩).symm
end Go.Proofs.YtihpjcmloecaaaaGreat.Cw
namespace Go.Proofs.YtihpjcmloecaaaaGreat.Cw
open Go Go.Cw Go.Proofs
set_option linter.unusedVariables false
set_option maxRecDepth 100000
set_option maxHeartbeats 8000000
def zhm (f : Int × Int → Int × PV) : Nat → List (Int × Int) → List (Value × Nat × AV)
 | _, [] => []
 | b, e :: E => (.int .i64 (f e).1, b, .pv (f e).2) :: zhm f (b + 1) E
section
variable {f : Int × Int → Int × PV} {k : Int}
theorem ziL : ∀ {E : List (Int × Int)} {b : Nat}, zfi (.int .i64 k) (zhm f b E) = (E.find? fun e => k == (f e).1).map fun e => .pv (f e).2
 | [], b => rfl
 | e :: E, b => by
   simp only [zhm, zfi, List.find?_cons]
   show (bif k == (f e).1 then _ else _) = _
   cases k == (f e).1
   · exact ziL
   · rfl
theorem ziK {v : AV} {ck : Nat} : ∀ {E : List (Int × Int)} {b : Nat}, (E.find? fun e => k == (f e).1) = none → zjp (.int .i64 k) v ck (zhm f b E) = zhm f b E ++ [(.int .i64 k, ck, v)]
 | [], b, _ => rfl
 | e :: E, b, h => by
   simp only [zhm, zjp, List.find?_cons] at *
   cases hk : k == (f e).1
   · rw [hk] at h
     show (bif k == (f e).1 then _ else _) = _
     rw [hk]
     show _ :: _ = _ :: _
     rw [ziK h]; rfl
   · rw [hk] at h; cases h
theorem ziM {e : Int × Int} : ∀ {E : List (Int × Int)} {b : Nat}, zhm f b (E ++ [e]) = zhm f b E ++ [(.int .i64 (f e).1, b + E.length, .pv (f e).2)]
 | [], b => rfl
 | a :: E, b => by
   simp only [zhm, List.cons_append, List.length_cons]
   rw [ziM, show b + 1 + E.length = b + (E.length + 1) by omega]
theorem zjS : ∀ {E : List (Int × Int)} {b : Nat}, pureM (zhm f b E)
 | [], b => fun e h => absurd h List.not_mem_nil
 | a :: E, b => fun e h => by
   simp only [zhm, List.mem_cons] at h
   rcases h with rfl | h
   · exact ⟨_, rfl⟩
   · exact zjS e h
end
def fTo (e : Int × Int) : Int × PV := (e.1, .val (.int .i64 e.2))
def fTk (e : Int × Int) : Int × PV := (e.2, .val (.bool true))
def mapN (ty : Nat) (f : Int × Int → Int × PV) (E : List (Int × Int)) : Option AObj := some ⟨ty, 1, false, .mp .num .i64 (zhm f 0 E) E.length⟩
theorem q8 {ty d i : Nat} {H Hc : zt} {rn l : List Nat} {f : Int × Int → Int × PV} {E : List (Int × Int)} (h : H[i]? = some (mapN ty f E)) (hk : zaz H d rn l Hc) : zaz H d rn (i :: l) (mapN ty f E :: Hc) :=
 ⟨(by show _ = some (some (zd8 _ _ _)); rw [zda zjS]; exact h), hk⟩
def toF (E : List (Int × Int)) (r : Int) : Option Int := (E.find? fun e => r == e.1).map (·.2)
def zbq (E : List (Int × Int)) (t : Int) : Bool := (E.find? fun e => t == e.2).isSome
def zfI (o : Option Nat) : Int := ((o.getD 0 : Nat) : Int)
def zaR (E : List (Int × Int)) (g : Int → Int) (st : Int × Int) (t : Int) : Int × Int := if zbq E t then st else if st.1 < 0 ∨ g t < st.2 then (t, g t) else st
noncomputable def zbZ (S : List (List Int)) (l : List Opt) (o : Nat) (r : Int) (c : Nat) (st : List Int × List (Int × Int)) : List Int × List (Int × Int) :=
 match toF st.2 r with
 | some t => (st.1.set c (zfI (za3 l o t)), st.2)
 | none => (st.1.set c ((zhL S r).foldl (zaR st.2 fun t => zfI (za3 l o t)) (-1, (o : Int))).2, if 0 ≤ ((zhL S r).foldl (zaR st.2 fun t => zfI (za3 l o t)) (-1, (o : Int))).1 then st.2 ++ [(r, ((zhL S r).foldl (zaR st.2 fun t => zfI (za3 l o t)) (-1, (o : Int))).1)] else st.2)
noncomputable def zf5 (m : Model) (plan : List Int) (S : List (List Int)) : Nat → List Int × List (Int × Int)
 | 0 => (plan, [])
 | k + 1 => match plan[k]?, m.classes[k]? with
   | some o, some l => if o < 0 then zf5 m plan S k else match l[o.toNat]? with
     | some q => zbZ S l o.toNat q.place.room k (zf5 m plan S k)
     | none => zf5 m plan S k
   | _, _ => zf5 m plan S k
noncomputable def canV (m : Model) (plan : List Int) : List Int := (zf5 m plan (xr m) plan.length).1
noncomputable def znK (m : Model) (plan : List Int) : Int := if qx m = 0 then (if pB (zgT m plan) then 0 else 17) else qx m
noncomputable def znZ (m : Model) (plan : List Int) : List Int := if znK m plan = 0 then canV m plan else []
theorem zlA {l : List Int} {H : zt} {K : AV → zt → Prop} (hl : 0 < l.length ∧ l.length ≤ 100000) (hK : K (.ms H.length 1 0 l.length) (H ++ [some ⟨3, 1, false, .p (l.map zr)⟩])) : zp Tryz.prog 44 [.pv (.sl 1 (l.map zr))] H K := by
 refine zaL [] [] [.pv (.sl 1 (l.map zr))] rfl trivial rfl (zm5 l hl) fun r Hc' hp => ?_
 obtain ⟨rfl, rfl⟩ := hp
 exact ⟨Nat.zero_le _, hK⟩
def mdlO (m : Model) : Option AObj := some ⟨29, 4, false, .box [.pv (.sl 1 (m.classes.map zA)), .pv (.sl 4 (m.pairs.map Pair.row)), .pv (.sl 4 (m.counts.map Count.row)), .pv (ei m.rules)]⟩
theorem zoX {o : Option Nat} : imgA o = .tup [zg .i64 (zfI o), zo o.isSome] := by cases o <;> rfl
theorem set_same {α : Type} {l : List α} {c : Nat} {x : α} (h : l[c]? = some x) : l.set c x = l := by
 obtain ⟨hl, rfl⟩ := List.getElem?_eq_some_iff.1 h
 exact List.set_getElem_self hl
theorem get_to {E : List (Int × Int)} {r : Int} : zfi (.int .i64 r) (zhm fTo 0 E) = (toF E r).map fun t => zg .i64 t := by
 rw [ziL]; unfold toF; rw [Option.map_map]; rfl
theorem get_tk {E : List (Int × Int)} {t : Int} : zfi (.int .i64 t) (zhm fTk 0 E) = if zbq E t then some (zo true) else none := by
 rw [ziL]; unfold zbq
 show (E.find? fun e => t == e.2).map _ = _
 cases (E.find? fun e => t == e.2) <;> rfl
theorem put_to {E : List (Int × Int)} {r b : Int} (h : toF E r = none) : zjp (.int .i64 r) (zg .i64 b) E.length (zhm fTo 0 E) = zhm fTo 0 (E ++ [(r, b)]) := by
 have h : (E.find? fun e => r == (fTo e).1) = none := by
  show (E.find? fun e => r == e.1) = none
  unfold toF at h
  cases hf : (E.find? fun e => r == e.1) with
  | none => rfl
  | some e => rw [hf] at h; cases h
 rw [ziK h, ziM, Nat.zero_add]; rfl
theorem put_tk {E : List (Int × Int)} {r b : Int} (h : zbq E b = false) : zjp (.int .i64 b) (zo true) E.length (zhm fTk 0 E) = zhm fTk 0 (E ++ [(r, b)]) := by
 have h : (E.find? fun e => b == (fTk e).1) = none := by
  show (E.find? fun e => b == e.2) = none
  unfold zbq at h
  cases hf : (E.find? fun e => b == e.2) with
  | none => rfl
  | some e => rw [hf] at h; cases h
 rw [ziK h, ziM, Nat.zero_add]; rfl
theorem ck_to {E : List (Int × Int)} {r b : Int} (h : toF E r = none) : ckM (.int .i64 r) E.length (zhm fTo 0 E) = (E ++ [(r, b)]).length := by
 unfold ckM; rw [get_to, h, List.length_append]; rfl
theorem ck_tk {E : List (Int × Int)} {r b : Int} (h : zbq E b = false) : ckM (.int .i64 b) E.length (zhm fTk 0 E) = (E ++ [(r, b)]).length := by
 unfold ckM; rw [get_tk, h, List.length_append]; rfl
theorem zlc {E : List (Int × Int)} {g : Int → Int} {st : Int × Int} {t : Int} (h : zbq E t = true) : zaR E g st t = st := by unfold zaR; rw [if_pos h]
theorem zjQ {E : List (Int × Int)} {g : Int → Int} {st : Int × Int} {t : Int} (h : zbq E t = false) (h2 : st.1 < 0 ∨ g t < st.2) : zaR E g st t = (t, g t) := by unfold zaR; rw [if_neg (by rw [h]; decide), if_pos h2]
theorem zhQ {E : List (Int × Int)} {g : Int → Int} {st : Int × Int} {t : Int} (h : zbq E t = false) (h2 : ¬ (st.1 < 0 ∨ g t < st.2)) : zaR E g st t = st := by unfold zaR; rw [if_neg (by rw [h]; decide), if_neg h2]
theorem zjP {E : List (Int × Int)} {g : Int → Int} : ∀ {l : List Int} {st : Int × Int}, st.1 < 0 ∨ zbq E st.1 = false → (l.foldl (zaR E g) st).1 < 0 ∨ zbq E (l.foldl (zaR E g) st).1 = false
 | [], st, h => h
 | t :: l, st, h => by
   refine zjP (l := l) ?_
   unfold zaR
   cases ht : zbq E t
   · simp only [Bool.false_eq_true, if_false]
     split
     · exact .inr ht
     · exact h
   · simpa using h
theorem zha {m : Model} {plan : List Int} {S : List (List Int)} {c : Nat} {o : Int} {l : List Opt} (ho : plan[c]? = some o) (hl : m.classes[c]? = some l) : zf5 m plan S (c + 1) = if o < 0 then zf5 m plan S c else match l[o.toNat]? with
  | some q => zbZ S l o.toNat q.place.room c (zf5 m plan S c)
  | none => zf5 m plan S c := by
 rw [zf5, ho, hl]
theorem zlz {S : List (List Int)} {l : List Opt} {o : Nat} {r : Int} {c : Nat} {st : List Int × List (Int × Int)} : (zbZ S l o r c st).1.length = st.1.length ∧ ∀ j : Nat, c < j → (zbZ S l o r c st).1[j]? = st.1[j]? := by
 unfold zbZ
 split
 · exact ⟨List.length_set .., fun j hj => List.getElem?_set_ne (by omega)⟩
 · exact ⟨List.length_set .., fun j hj => List.getElem?_set_ne (by omega)⟩
theorem zmW {m : Model} {plan : List Int} {S : List (List Int)} (hp : zgT m plan) : ∀ {c : Nat}, c ≤ plan.length → (zf5 m plan S c).1.length = plan.length ∧ ∀ j : Nat, c ≤ j → (zf5 m plan S c).1[j]? = plan[j]?
 | 0, _ => ⟨rfl, fun _ _ => rfl⟩
 | c + 1, hc => by
   obtain ⟨h1, h2⟩ := zmW hp (c := c) (S := S) (by omega)
   obtain ⟨o, ho⟩ := qj (l := plan) (i := c) (by omega)
   obtain ⟨l, hl⟩ := qj (l := m.classes) (i := c) (by have := hp.1; omega)
   rw [zha ho hl]
   split
   · exact ⟨h1, fun j hj => h2 j (by omega)⟩
   · split
     · obtain ⟨g1, g2⟩ := zlz (S := S) (l := l) (o := o.toNat) (r := (‹Opt›).place.room) (c := c) (st := zf5 m plan S c)
       exact ⟨by rw [g1, h1], fun j hj => by rw [g2 j (by omega), h2 j (by omega)]⟩
     · exact ⟨h1, fun j hj => h2 j (by omega)⟩
theorem setF_len {S : List (List Int)} {r : Int} {n : Nat} (h : ∀ s ∈ S, s.length ≤ n) : (zhL S r).length ≤ n := by
 unfold zhL
 cases hf : S.find? fun s => pB (r ∈ s) with
 | none => exact Nat.zero_le _
 | some s => exact h s (List.mem_of_find?_eq_some hf)
theorem c_canon0 (m : Model) (plan : List Int) (hl : Laid m) : zH Tryz.prog 19 [ag m.cells, .pv (qV plan)] (fun r => Leq r (.tup [.pv (.sl 1 ((znZ m plan).map zr)), zg .i64 (znK m plan)])) := by
 have hv := zjd m hl
 by_cases hok : qx m = 0
 · have hz := qP hok
   have hp := c_isPlan m plan hz
   rw [hok] at hv
   by_cases hpl : zgT m plan
   · rw [zaS hpl] at hp
     have hR := zlM m hl
     rcases plan with _ | ⟨p0, plan⟩
     · have e1 : znK m [] = 0 := by unfold znK; rw [if_pos hok, zaS hpl]; rfl
       have e2 : znZ m [] = [] := by unfold znZ; rw [if_pos e1]; rfl
       rw [e1, e2]
       have hce := zkA 0
       refine zh tok mixed 122 rfl (fn := Tryz.f19) (c := Tryz.f19.body.getD .skip) (by kernel_rfl) (by kernel_rfl) (by kernel_rfl) rfl 0 rfl ?_
       repeat' (first | ((change zp _ _ _ _ _; refine qw rfl (by repeat' (first | trivial | refine And.intro ?_ ?_ | (show 0 + _ ≤ List.length _; simp))) zW.refl hR ?_; rintro _ rfl)) | ((change zp _ _ _ _ _; refine qw rfl (by repeat' (first | trivial | refine And.intro ?_ ?_ | (show 0 + _ ≤ List.length _; simp))) zW.refl hce ?_; rintro _ rfl)) | refine o1 ?_ | refine o2 ?_ | refine k1 ?_ | refine k2 ?_ | refine k3 ?_ | refine k4 ?_ | refine k6 ?_ | refine And.intro ?_ ?_ | (intro h; first | exact Bool.noConfusion h | exact nz _ h | exact nl h | (simp at h; done) | (simp at h; first | (exfalso; omega) | skip) | skip) | refine za ?_ | (change zp _ _ _ _ _; refine zC rfl (by repeat' (first | trivial | refine And.intro ?_ ?_ | (show 0 + _ ≤ List.length _; simp))) zW.refl (hv) rfl ?_) | (change zp _ _ _ _ _; refine zC rfl (by repeat' (first | trivial | refine And.intro ?_ ?_ | (show 0 + _ ≤ List.length _; simp))) zW.refl (hp) rfl ?_) | fail)
       refine zB (fun _ : Unit => [(8, .pv (.sl 1 [])), (39, zg .i64 (0 : Nat)), (40, zg .i64 (0 : Nat))]) (fun _ => []) (fun _ => True) (fun _ => 0) () trivial ?_ ?_
       · exact zJ [] rfl rfl trivial (by repeat' (first | exact trivial | exact rfl | refine And.intro ?_ ?_))
       intro _ _
       repeat' (first | refine o1 ?_ | refine o2 ?_ | refine k1 ?_ | refine k2 ?_ | refine k3 ?_ | refine k7 ?_ | refine k8 ?_ | refine And.intro ?_ ?_ | (intro h; first | exact Bool.noConfusion h | exact nz _ h | exact nl h | (simp at h; done) | (simp at h; first | (exfalso; omega) | skip) | skip) | (change zx _ _ _ _; refine zd rfl trivial ?_) | fail)
       exact ⟨ALe.refl⟩
     have hcl : 0 < (p0 :: plan).length ∧ (p0 :: plan).length ≤ 100000 := ⟨by simp, by have := hpl.1; have := hz.1; omega⟩
     have e1 : znK m (p0 :: plan) = 0 := by unfold znK; rw [if_pos hok, zaS hpl]; rfl
     have e2 : znZ m (p0 :: plan) = (zf5 m (p0 :: plan) (xr m) (p0 :: plan).length).1 := by unfold znZ; rw [if_pos e1]; rfl
     rw [e1, e2]
     have hSl := zoh (m := m)
     generalize xr m = S at *
     generalize hpn : p0 :: plan = pl at *
     refine zh tok mixed 122 rfl (fn := Tryz.f19) (c := Tryz.f19.body.getD .skip) (by kernel_rfl) (by kernel_rfl) (by kernel_rfl) rfl 0 rfl ?_
     repeat' (first | ((change zp _ _ _ _ _; refine qw rfl (by repeat' (first | trivial | refine And.intro ?_ ?_ | (show 0 + _ ≤ List.length _; simp))) zW.refl hR ?_; rintro _ rfl)) | ((change zp _ _ _ _ _; refine zlA hcl ?_)) | refine o1 ?_ | refine o2 ?_ | refine k1 ?_ | refine k2 ?_ | refine k3 ?_ | refine k4 ?_ | refine k6 ?_ | refine And.intro ?_ ?_ | (intro h; first | exact Bool.noConfusion h | exact nz _ h | exact nl h | (simp at h; done) | (simp at h; first | (exfalso; omega) | skip) | skip) | refine za ?_ | (change zp _ _ _ _ _; refine zC rfl (by repeat' (first | trivial | refine And.intro ?_ ?_ | (show 0 + _ ≤ List.length _; simp))) zW.refl (hv) rfl ?_) | (change zp _ _ _ _ _; refine zC rfl (by repeat' (first | trivial | refine And.intro ?_ ?_ | (show 0 + _ ≤ List.length _; simp))) zW.refl (hp) rfl ?_) | fail)
     refine zB (fun c : Nat => [(2, .ptr 0 4 0 0), (7, .pv (.sl 1 (S.map q9))), (8, .ms 1 1 0 pl.length), (9, .mp 2), (10, .mp 3), (38, .pv (qV pl)), (39, zg .i64 pl.length), (40, zg .i64 c)])
      (fun c => [mdlO m, some ⟨3, 1, false, .p ((zf5 m pl S c).1.map zr)⟩, mapN 82 fTo (zf5 m pl S c).2, mapN 83 fTk (zf5 m pl S c).2])
      (fun c => c ≤ pl.length) (fun c => pl.length - c) 0 (Nat.zero_le _) ?_ ?_
     · exact zJ [0, 1, 2, 3] rfl rfl ⟨rfl, rfl, rfl, rfl, trivial⟩ (by repeat' (first | exact trivial | exact rfl | refine And.intro ?_ ?_))
     intro c hc
     have hinv := zmW (m := m) (plan := pl) (S := S) hpl hc
     rcases Nat.lt_or_ge c pl.length with hcl2 | hcg
     · obtain ⟨o, ho⟩ := qj hcl2
       obtain ⟨l, hll⟩ := qj (l := m.classes) (i := c) (by have := hpl.1; omega)
       have hop := hpl.2 c hcl2 o l ho hll
       have hln := hz.2.1 l (List.mem_of_getElem? hll)
       have hcn := zha (S := S) ho hll
       generalize zf5 m pl S c = st0 at *
       obtain ⟨out, E⟩ := st0
       dsimp only at hinv hcn ⊢
       by_cases ho0 : o < 0
       · rw [if_pos ho0] at hcn
         repeat' (first | (refine zj (k := c) (zf ho) (by omega) ?_) | refine o1 ?_ | refine o2 ?_ | refine k1 ?_ | refine k2 ?_ | refine k3 ?_ | refine k4 ?_ | refine k6 ?_ | refine k8 ?_ | refine And.intro ?_ ?_ | (intro h; first | exact Bool.noConfusion h | exact nz _ h | exact nl h | (simp at h; done) | (simp at h; first | (exfalso; omega) | skip) | skip) | refine zc (by omega) (by omega) ?_ | fail)
         exact ⟨c + 1, by omega, by omega, (by rw [hcn]; exact zJ [0, 1, 2, 3] rfl rfl ⟨rfl, rfl, q8 rfl (q8 rfl trivial)⟩ (by repeat' (first | exact trivial | exact rfl | refine And.intro ?_ ?_)))⟩
       obtain ⟨q, rfl⟩ : ∃ q : Nat, o = q := ⟨o.toNat, by omega⟩
       obtain ⟨op, hop2⟩ := qj (l := l) (i := q) (by omega)
       rw [if_neg ho0] at hcn
       dsimp only [mdlO]
       repeat' (first | (refine zj (k := c) (zf ho) (by omega) ?_) | (refine zj (k := c) (zf hll) (by omega) ?_) | (refine zj (k := q) (zf hop2) (by omega) ?_) | (refine zcE (a := .region 14 _ _) (fun _ => [(14, zg .i64 op.place.room), (15, .mp 4)]) (fun _ : Unit => [mdlO m, some ⟨3, 1, false, .p (out.map zr)⟩, mapN 82 fTo E, mapN 83 fTk E, zgN 85 (zbC l l.length)]) (fun _ => True) ?_) | ((show zU _ _ _ _ (.region 14 _ _) _ _ _; refine zg3 ?_)) | ((change zp _ _ _ _ _; refine zif (by omega) ?_)) | ((change ∃ x : Unit, _ ∧ _; exact ⟨(), trivial, zJ [0, 1, 2, 3, 4] rfl rfl ⟨rfl, rfl, q8 rfl (q8 rfl (zcC rfl trivial))⟩ (by repeat' (first | exact trivial | exact rfl | exact ⟨_, rfl, ALe.refl⟩ | refine And.intro ?_ ?_))⟩)) | refine o1 ?_ | refine o2 ?_ | refine k1 ?_ | refine k2 ?_ | refine k3 ?_ | refine k4 ?_ | refine k6 ?_ | refine And.intro ?_ ?_ | exact trivial | refine o5 ?_ | refine o6 ?_ | (intro h; first | exact Bool.noConfusion h | exact nz _ h | exact nl h | (simp at h; done) | (simp at h; first | (exfalso; omega) | skip) | skip) | fail)
       refine ⟨?_⟩
       intro _ _
       have hcn : zf5 m pl S (c + 1) = zbZ S l q op.place.room c (out, E) := by rw [hcn, Int.toNat_natCast, hop2]
       have hoc : out[c]? = some (q : Int) := by rw [hinv.2 c (Nat.le_refl _), ho]
       have hol : out.length = pl.length := hinv.1
       generalize op.place.room = r at *
       generalize hEg : zbC l l.length = G at *
       have hgt := get_to (E := E) (r := r)
       rcases hto : toF E r with _ | t
       · rw [hto] at hgt
         have hso := c_setOf S r (by omega) fun s hs => by have := hSl.2 s hs; omega
         have hcn1 : zf5 m pl S (c + 1) = (out.set c ((zhL S r).foldl (zaR E fun t => zfI (za3 l q t)) (-1, (q : Int))).2, if 0 ≤ ((zhL S r).foldl (zaR E fun t => zfI (za3 l q t)) (-1, (q : Int))).1 then E ++ [(r, ((zhL S r).foldl (zaR E fun t => zfI (za3 l q t)) (-1, (q : Int))).1)] else E) := by rw [hcn]; unfold zbZ; dsimp only; rw [hto]
         have hql : (zhL S r).length ≤ 576 := setF_len hSl.2
         have hfree := zjP (E := E) (g := fun t => zfI (za3 l q t)) (l := zhL S r) (st := (-1, (q : Int))) (.inl (by show (-1 : Int) < 0; decide))
         generalize zhL S r = sq at *
         repeat' (first | (refine zi none hgt ?_) | ((change zp _ _ _ _ _; refine qw rfl (by repeat' (first | trivial | refine And.intro ?_ ?_ | (show 0 + _ ≤ List.length _; simp))) zW.refl hso ?_; rintro _ rfl)) | refine o1 ?_ | refine o2 ?_ | refine k1 ?_ | refine k2 ?_ | refine k3 ?_ | refine k4 ?_ | refine k6 ?_ | refine And.intro ?_ ?_ | (intro h; first | exact Bool.noConfusion h | exact nz _ h | exact nl h | (simp at h; done) | (simp at h; first | (exfalso; omega) | skip) | skip) | refine za ?_ | fail)
         refine zB (fun k : Nat => [(2, .ptr 0 4 0 0), (7, .pv (.sl 1 (S.map q9))), (8, .ms 1 1 0 pl.length), (9, .mp 2), (10, .mp 3), (38, .pv (qV pl)), (39, zg .i64 pl.length), (40, zg .i64 c), (11, zg .i64 c), (12, zg .i64 q), (13, .pv (.sl 6 (l.map Opt.row))), (14, zg .i64 r), (15, .mp 4), (18, zg .i64 ((sq.take k).foldl (zaR E fun t => zfI (za3 l q t)) (-1, (q : Int))).1), (80, .pv (.sl 1 (sq.map zr))), (81, zg .i64 sq.length), (82, zg .i64 k)])
          (fun k => [mdlO m, some ⟨3, 1, false, .p ((out.set c ((sq.take k).foldl (zaR E fun t => zfI (za3 l q t)) (-1, (q : Int))).2).map zr)⟩, mapN 82 fTo E, mapN 83 fTk E, zgN 85 G])
          (fun k => k ≤ sq.length) (fun k => sq.length - k) 0 (Nat.zero_le _) ?_ ?_
         · have h0 : out.set c ((sq.take 0).foldl (zaR E fun t => zfI (za3 l q t)) (-1, (q : Int))).2 = out := set_same hoc
           rw [h0]
           exact zJ [0, 1, 2, 3, 4] rfl rfl ⟨rfl, rfl, q8 rfl (q8 rfl (zcC rfl trivial))⟩ (by repeat' (first | exact trivial | exact rfl | refine And.intro ?_ ?_))
         intro k hk
         rcases Nat.lt_or_ge k sq.length with hkl | hkg
         · obtain ⟨t, ht⟩ := qj hkl
           have hst : (sq.take (k + 1)).foldl (zaR E fun t => zfI (za3 l q t)) (-1, (q : Int)) = zaR E (fun t => zfI (za3 l q t)) ((sq.take k).foldl (zaR E fun t => zfI (za3 l q t)) (-1, (q : Int))) t := by rw [xS ht, List.foldl_append]; rfl
           generalize (sq.take k).foldl (zaR E fun t => zfI (za3 l q t)) (-1, (q : Int)) = st0 at *
           obtain ⟨b, x⟩ := st0
           dsimp only at hst ⊢
           have hgk := get_tk (E := E) (t := t)
           have hcx : (out.set c x)[c]? = some x := by rw [List.getElem?_set_self (by omega)]
           cases htk : zbq E t
           · rw [htk] at hgk
             have hgk : zfi (.int .i64 t) (zhm fTk 0 E) = none := hgk
             repeat' (first | (refine zj (k := k) (zf ht) (by omega) ?_) | (refine zi none hgk ?_) | ((change zp _ _ _ _ _; refine zan 4 hEg.symm rfl (by omega) (by omega) ?_; rw [zoX])) | (refine ⟨_, zf hcx, ?_⟩) | refine o1 ?_ | refine o2 ?_ | refine k1 ?_ | refine k2 ?_ | refine k3 ?_ | refine k4 ?_ | refine k6 ?_ | refine And.intro ?_ ?_ | (intro h; first | exact Bool.noConfusion h | exact nz _ h | exact nl h | (simp at h; done) | (simp at h; first | (exfalso; omega) | skip) | skip) | exact Nat.le_of_ble_eq_true rfl | refine zL ?_ | refine zc (by omega) (by omega) ?_ | refine zi _ (xh rfl rfl) ?_ | refine qp _ (by first | rfl | assumption) (by first | assumption | omega) ?_ | fail)
             all_goals first
              | (exfalso; omega)
              | (refine ⟨k + 1, by omega, by omega, ?_⟩
                 rw [hst, zjQ htk (by show b < 0 ∨ zfI (za3 l q t) < x; omega), List.set_set]
                 exact zJ [0, 1, 2, 3, 4] rfl rfl ⟨rfl, rfl, q8 rfl (q8 rfl (zcC rfl trivial))⟩ (by repeat' (first | exact trivial | exact rfl | refine And.intro ?_ ?_)))
              | (refine ⟨k + 1, by omega, by omega, ?_⟩
                 rw [hst, zhQ htk (by show ¬ (b < 0 ∨ zfI (za3 l q t) < x); omega)]
                 exact zJ [0, 1, 2, 3, 4] rfl rfl ⟨rfl, rfl, q8 rfl (q8 rfl (zcC rfl trivial))⟩ (by repeat' (first | exact trivial | exact rfl | refine And.intro ?_ ?_)))
           · rw [htk] at hgk
             have hgk : zfi (.int .i64 t) (zhm fTk 0 E) = some (zo true) := hgk
             rw [zlc htk] at hst
             repeat' (first | (refine zj (k := k) (zf ht) (by omega) ?_) | (refine zi _ hgk ?_) | refine o1 ?_ | refine o2 ?_ | refine k1 ?_ | refine k2 ?_ | refine k3 ?_ | refine k4 ?_ | refine k6 ?_ | refine k8 ?_ | refine And.intro ?_ ?_ | (intro h; first | exact Bool.noConfusion h | exact nz _ h | exact nl h | (simp at h; done) | (simp at h; first | (exfalso; omega) | skip) | skip) | refine zc (by omega) (by omega) ?_ | fail)
             all_goals first
              | (exfalso; omega)
              | exact ⟨k + 1, by omega, by omega, (by rw [hst]; exact zJ [0, 1, 2, 3, 4] rfl rfl ⟨rfl, rfl, q8 rfl (q8 rfl (zcC rfl trivial))⟩ (by repeat' (first | exact trivial | exact rfl | refine And.intro ?_ ?_)))⟩
         · obtain rfl : k = sq.length := by omega
           rw [List.take_length]
           generalize sq.foldl (zaR E fun t => zfI (za3 l q t)) (-1, (q : Int)) = st0 at *
           obtain ⟨b, x⟩ := st0
           dsimp only at hcn1 hfree ⊢
           by_cases hb0 : 0 ≤ b
           · rw [if_pos hb0] at hcn1
             have htk : zbq E b = false := hfree.elim (fun h => by omega) id
             have hp1 := put_to (b := b) hto
             have hp2 := put_tk (r := r) htk
             have hc1 := ck_to (b := b) hto
             have hc2 := ck_tk (r := r) htk
             repeat' (first | (refine zi _ hp1 ?_) | (refine zi _ hp2 ?_) | (refine zi _ hc1 ?_) | (refine zi _ hc2 ?_) | refine o1 ?_ | refine o2 ?_ | refine k1 ?_ | refine k2 ?_ | refine k3 ?_ | refine k8 ?_ | refine And.intro ?_ ?_ | (intro h; first | exact Bool.noConfusion h | exact nz _ h | exact nl h | (simp at h; done) | (simp at h; first | (exfalso; omega) | skip) | skip) | refine zc (by omega) (by omega) ?_ | fail)
             all_goals first
              | (exfalso; omega)
              | exact ⟨c + 1, by omega, by omega, (by rw [hcn1]; exact zJ [0, 1, 2, 3] rfl rfl ⟨rfl, rfl, q8 rfl (q8 rfl trivial)⟩ (by repeat' (first | exact trivial | exact rfl | refine And.intro ?_ ?_)))⟩
           · rw [if_neg hb0] at hcn1
             repeat' (first | refine o1 ?_ | refine o2 ?_ | refine k1 ?_ | refine k2 ?_ | refine k3 ?_ | refine k6 ?_ | refine k8 ?_ | refine And.intro ?_ ?_ | (intro h; first | exact Bool.noConfusion h | exact nz _ h | exact nl h | (simp at h; done) | (simp at h; first | (exfalso; omega) | skip) | skip) | refine zc (by omega) (by omega) ?_ | fail)
             all_goals first
              | (exfalso; omega)
              | exact ⟨c + 1, by omega, by omega, (by rw [hcn1]; exact zJ [0, 1, 2, 3] rfl rfl ⟨rfl, rfl, q8 rfl (q8 rfl trivial)⟩ (by repeat' (first | exact trivial | exact rfl | refine And.intro ?_ ?_)))⟩
       · rw [hto] at hgt
         have hcn1 : zf5 m pl S (c + 1) = (out.set c (zfI (za3 l q t)), E) := by rw [hcn]; unfold zbZ; dsimp only; rw [hto]
         repeat' (first | (refine zi _ hgt ?_) | ((change zp _ _ _ _ _; refine zan 4 hEg.symm rfl (by omega) (by omega) ?_; rw [zoX])) | refine o1 ?_ | refine o2 ?_ | refine k1 ?_ | refine k2 ?_ | refine k3 ?_ | refine k8 ?_ | refine And.intro ?_ ?_ | (intro h; first | exact Bool.noConfusion h | exact nz _ h | exact nl h | (simp at h; done) | (simp at h; first | (exfalso; omega) | skip) | skip) | exact Nat.le_of_ble_eq_true rfl | refine zL ?_ | refine zc (by omega) (by omega) ?_ | refine zi _ (xh rfl rfl) ?_ | refine ⟨_, zf (by assumption), ?_⟩ | refine qp _ (by first | rfl | assumption) (by first | assumption | omega) ?_ | fail)
         all_goals first
          | exact ⟨c + 1, by omega, by omega, (by rw [hcn1]; exact zJ [0, 1, 2, 3] rfl rfl ⟨rfl, rfl, q8 rfl (q8 rfl trivial)⟩ (by repeat' (first | exact trivial | exact rfl | refine And.intro ?_ ?_)))⟩
     · obtain rfl : c = pl.length := by omega
       obtain ⟨hol, _⟩ := hinv
       generalize (zf5 m pl S pl.length) = st0 at *
       obtain ⟨out, E⟩ := st0
       dsimp only at hol ⊢
       dsimp only [mdlO]
       repeat' (first | refine o1 ?_ | refine o2 ?_ | refine k1 ?_ | refine k2 ?_ | refine k3 ?_ | refine k7 ?_ | refine k8 ?_ | refine And.intro ?_ ?_ | (intro h; first | exact Bool.noConfusion h | exact nz _ h | exact nl h | (simp at h; done) | (simp at h; first | (exfalso; omega) | skip) | skip) | fail)
       refine zd (r0 := .tup [.pv (.sl 1 (((out.map zr).drop 0).take pl.length)), zg .i64 0]) rfl ?_ ?_
       · refine ⟨?_, trivial⟩
         show 0 + pl.length ≤ _
         rw [List.length_map]; omega
       · rw [List.drop_zero, List.take_of_length_le (by rw [List.length_map]; omega)]
         exact ⟨ALe.refl⟩
   · rw [zaj hpl] at hp
     have e1 : znK m plan = 17 := by unfold znK; rw [if_pos hok, zaj hpl]; rfl
     have e2 : znZ m plan = [] := by unfold znZ; rw [if_neg (by rw [e1]; decide)]
     rw [e1, e2]
     refine zh tok mixed 122 rfl (fn := Tryz.f19) (c := Tryz.f19.body.getD .skip) (by kernel_rfl) (by kernel_rfl) (by kernel_rfl) rfl 0 rfl ?_
     repeat' (first | refine o1 ?_ | refine o2 ?_ | refine k1 ?_ | refine k2 ?_ | refine k3 ?_ | refine k6 ?_ | refine k7 ?_ | refine And.intro ?_ ?_ | (intro h; first | exact Bool.noConfusion h | exact nz _ h | exact nl h | (simp at h; done) | (simp at h; first | (exfalso; omega) | skip) | skip) | (change zx _ _ _ _; refine zd rfl trivial ?_) | (change zp _ _ _ _ _; refine zC rfl (by repeat' (first | trivial | refine And.intro ?_ ?_ | (show 0 + _ ≤ List.length _; simp))) zW.refl (hv) rfl ?_) | (change zp _ _ _ _ _; refine zC rfl (by repeat' (first | trivial | refine And.intro ?_ ?_ | (show 0 + _ ≤ List.length _; simp))) zW.refl (hp) rfl ?_) | fail)
     exact ⟨ALe.tup ⟨ALe.pv PLe.nil, ALe.refl, trivial⟩⟩
 · have e1 : znK m plan = qx m := by unfold znK; rw [if_neg hok]
   have e2 : znZ m plan = [] := by unfold znZ; rw [if_neg (by rw [e1]; exact hok)]
   rw [e1, e2]
   refine zh tok mixed 122 rfl (fn := Tryz.f19) (c := Tryz.f19.body.getD .skip) (by kernel_rfl) (by kernel_rfl) (by kernel_rfl) rfl 0 rfl ?_
   repeat' (first | refine o1 ?_ | refine o2 ?_ | refine k1 ?_ | refine k2 ?_ | refine k3 ?_ | refine k7 ?_ | refine And.intro ?_ ?_ | (intro h; first | exact Bool.noConfusion h | exact nz _ h | exact nl h | (simp at h; done) | (simp at h; first | (exfalso; omega) | skip) | skip) | (change zx _ _ _ _; refine zd rfl trivial ?_) | (change zp _ _ _ _ _; refine zC rfl (by repeat' (first | trivial | refine And.intro ?_ ?_ | (show 0 + _ ≤ List.length _; simp))) zW.refl (hv) rfl ?_) | fail)
   all_goals first
    | (exfalso; omega)
    | exact ⟨ALe.tup ⟨ALe.pv PLe.nil, ALe.refl, trivial⟩⟩
theorem c_canon (m : Model) (plan : List Int) (hl : Laid m) : zH Tryz.prog 19 [ag m.cells, .pv (qV plan)] (fun r => r = .tup [.pv (.sl 1 ((znZ m plan).map zr)), zg .i64 (znK m plan)]) := (c_canon0 m plan hl).weak fun r k => ⟨_, k.le, rfl⟩
end Go.Proofs.YtihpjcmloecaaaaGreat.Cw
namespace Go.Proofs.YtihpjcmloecaaaaGreat.Cw
open Go Go.Cw Go.Proofs
set_option linter.unusedVariables false
theorem zo9 {r a b : Int} : zfA r a b = zfA r b a := by
 unfold zfA
 split
 · split
   · omega
   · rfl
 · split <;> rfl
theorem zhF {l : List Opt} {a b : Int} {i : Nat} : zc3 l a b i = zc3 l b a i := by
 unfold zc3
 cases l[i]? with
 | none => rfl
 | some o => simp only [zo9]
theorem zi0 {l : List Opt} {a b : Int} {i : Nat} : imN l a b i = imN l b a i := by unfold imN; rw [zhF]
theorem ze4 {m : Model} {a b : Int} (h : zbz m a b) : zbz m b a := by
 obtain ⟨h1, h2, h3⟩ := h
 refine ⟨fun l hl i hi => ?_, fun p hp x y hx hy i hi k hk => ?_, ?_⟩
 · obtain ⟨j, o, q, g⟩ := h1 l hl i hi
   exact ⟨j, o, q, by rw [← zhF]; exact g.1, g.2⟩
 · rw [← zi0, ← zi0 (l := y)]; exact h2 p hp x y hx hy i hi k hk
 · unfold zg5 at *
   rw [h3]
   congr 1
   funext l
   unfold zO
   cases m.classes[l.cls.toNat]? with
   | none => rfl
   | some x => simp only [zi0]
structure SetsOk (m : Model) (l : List Int) (S : List (List Int)) : Prop where
 sub : ∀ s ∈ S, ∀ x ∈ s, x ∈ l
 nd : ∀ s ∈ S, s.Nodup
 dis : S.Pairwise fun s t => ∀ x ∈ s, x ∉ t
 sw : ∀ s ∈ S, ∀ x ∈ s, ∀ y ∈ s, x ≠ y → zbz m x y
theorem zog {m : Model} (hz : qJ m) (hg : zdQ m) : ∀ {n : Nat} {l : List Int}, l.Nodup → SetsOk m l (zao m n l)
 | 0, l, _ => ⟨fun s h => absurd h List.not_mem_nil, fun s h => absurd h List.not_mem_nil, List.Pairwise.nil, fun s h => absurd h List.not_mem_nil⟩
 | n + 1, [], _ => ⟨fun s h => absurd h List.not_mem_nil, fun s h => absurd h List.not_mem_nil, List.Pairwise.nil, fun s h => absurd h List.not_mem_nil⟩
 | n + 1, x :: l, hnd => by
   obtain ⟨hx, hl⟩ := List.nodup_cons.1 hnd
   have ih := zog hz hg (n := n) (l := l.filter fun b => !swB m x b) (List.Pairwise.filter _ hl)
   have hset : SetsOk m (x :: l) [x :: l.filter (swB m x)] := by
    refine ⟨fun s h y hy => ?_, fun s h => ?_, List.pairwise_singleton .., fun s h y hy z hz' hne => ?_⟩
    · obtain rfl := List.mem_singleton.1 h
      rcases List.mem_cons.1 hy with rfl | hy
      · exact List.mem_cons_self ..
      · exact List.mem_cons_of_mem _ (List.mem_filter.1 hy).1
    · obtain rfl := List.mem_singleton.1 h
      exact List.nodup_cons.2 ⟨fun h => hx (List.mem_filter.1 h).1, List.Pairwise.filter _ hl⟩
    · obtain rfl := List.mem_singleton.1 h
      rcases List.mem_cons.1 hy with rfl | hy
      · rcases List.mem_cons.1 hz' with rfl | hz'
        · exact absurd rfl hne
        · exact zhG.1 (List.mem_filter.1 hz').2
      · have h1 := zhG.1 (List.mem_filter.1 hy).2
        rcases List.mem_cons.1 hz' with rfl | hz'
        · exact ze4 h1
        · have h2 := zhG.1 (List.mem_filter.1 hz').2
          have n1 : y ≠ x := fun e => hx (e ▸ (List.mem_filter.1 hy).1)
          have n2 : z ≠ x := fun e => hx (e ▸ (List.mem_filter.1 hz').1)
          exact zhE hz hg hne n1 n2 (ze4 h1) (ze4 h2)
   unfold zao
   split
   · refine ⟨fun s h y hy => ?_, ih.nd, ih.dis, ih.sw⟩
     exact List.mem_cons_of_mem _ (List.mem_filter.1 (ih.sub s h y hy)).1
   · refine ⟨fun s h y hy => ?_, fun s h => ?_, ?_, fun s h => ?_⟩
     · rcases List.mem_append.1 h with h | h
       · exact hset.sub s h y hy
       · exact List.mem_cons_of_mem _ (List.mem_filter.1 (ih.sub s h y hy)).1
     · rcases List.mem_append.1 h with h | h
       · exact hset.nd s h
       · exact ih.nd s h
     · refine List.pairwise_append.2 ⟨hset.dis, ih.dis, fun s h t ht y hy hyt => ?_⟩
       obtain rfl := List.mem_singleton.1 h
       have h2 := List.mem_filter.1 (ih.sub t ht y hyt)
       rcases List.mem_cons.1 hy with rfl | hy
       · exact hx h2.1
       · have := (List.mem_filter.1 hy).2
         rw [this] at h2; simp at h2
     · rcases List.mem_append.1 h with h | h
       · exact hset.sw s h
       · exact ih.sw s h
theorem setsV_ok {m : Model} (hok : qx m = 0) : SetsOk m (zS m) (xr m) := by
 unfold xr
 rw [if_pos hok]
 exact zog (qP hok) (zak hok) ((xv m).2.imp fun h => by omega)
end Go.Proofs.YtihpjcmloecaaaaGreat.Cw
namespace Go.Proofs.YtihpjcmloecaaaaGreat.Cw
open Go Go.Cw Go.Proofs
set_option linter.unusedVariables false
set_option maxRecDepth 100000
set_option maxHeartbeats 8000000
def zhx : Int := 1099511627776
noncomputable def inS (s : List Int) (o : Opt) : Bool := pB (o.place.room ∈ s)
noncomputable def hitS (s : List Int) (o : Opt) : Bool := inS s o && pB (o.place.room ≠ s.headD 0)
noncomputable def zdW (R : Int) (s : List Int) (o : Opt) : Opt := if hitS s o then ⟨o.place, o.charges ++ [⟨R, zhx⟩]⟩ else o
noncomputable def zlN (R : Int) (s : List Int) : List (List Opt) → List (List Opt)
 | [] => []
 | l :: L => if l.any (inS s) then l.map (zdW R s) :: L else l :: zlN R s L
noncomputable def zfK (R : Int) (S : List (List Int)) (L : List (List Opt)) : List (List Opt) := S.foldl (fun L s => zlN R s L) L
noncomputable def brkM (m : Model) : Model := ⟨zfK m.rules (xr m) m.classes, m.pairs, m.counts, m.rules + 1⟩
section
variable {R : Int} {s : List Int} {L A B : List (List Opt)} {l : List Opt} {o : Opt}
theorem znW : (zdW R s o).place = o.place := by unfold zdW; split <;> rfl
theorem zpV (hA : ∀ x ∈ A, x.any (inS s) = false) (hl : l.any (inS s) = true) : zlN R s (A ++ l :: B) = A ++ l.map (zdW R s) :: B := by
 induction A with
 | nil => simp [zlN, hl]
 | cons a A ih =>
   simp only [List.cons_append, zlN, hA a (by simp)]
   rw [ih fun x hx => hA x (by simp [hx])]
   rfl
theorem brkC_len : (zlN R s L).length = L.length := by
 induction L with
 | nil => rfl
 | cons l L ih => simp only [zlN]; split <;> simp [ih]
theorem zeS : ∀ {S : List (List Int)} {L : List (List Opt)}, (zfK R S L).length = L.length
 | [], _ => rfl
 | s :: S, L => (zeS (S := S)).trans brkC_len
def zhk (l : List Opt) : List Placed := l.map fun o => o.place
theorem brkC_plc : (zlN R s L).map zhk = L.map zhk := by
 induction L with
 | nil => rfl
 | cons l L ih =>
   simp only [zlN]
   split
   · simp only [List.map_cons]
     congr 1
     unfold zhk
     rw [List.map_map]
     exact List.map_congr_left fun o _ => znW
   · simp only [List.map_cons, ih]
theorem zf6 : ∀ {S : List (List Int)} {L : List (List Opt)}, (zfK R S L).map zhk = L.map zhk
 | [], _ => rfl
 | s :: S, L => (zf6 (S := S)).trans brkC_plc
end
section
variable {H XT : zt} {A B : List (List Opt)} {l : List Opt} {y z : Option AObj} {d F n q x i j : Nat} {rn fx : List Nat}
theorem zeE (hn : XT.length = n) (hq : q < n) (hinv : (XT.set q y).map (qE d rn) = XT.set q y) (hX : ∀ (t : Nat) (o : AObj), t ≠ q → XT[t]? = some (some o) → H[t + F]? = some (some o)) (hy : y = none ∨ H[x]? = some y) :
  zaz H d rn ((List.range' F n).set q x) (XT.set q y) := by
 refine zdG (by rw [List.length_set, List.length_set, List.length_range', hn]) fun t k hk o ho => ?_
 rw [hinv] at ho
 rw [zaI] at hk
 have ht : t < n := by
  have := (List.getElem?_eq_some_iff.1 ho).1
  rwa [List.length_set, hn] at this
 rw [if_pos ht] at hk
 injection hk with hk
 rw [List.getElem?_set] at ho
 by_cases e : q = t
 · subst e
   rw [if_pos rfl, if_pos (by rw [hn]; exact hq)] at ho
   injection ho with ho
   subst ho
   rcases hy with h | h
   · cases h
   · rw [← hk, if_pos rfl]; exact h
 · rw [if_neg e] at ho
   rw [← hk, if_neg e]
   exact hX t o (fun h => e h.symm) ho
def mid (A : List (List Opt)) (cs : zt) (y : Option AObj) (B : List (List Opt)) (n : Nat) : zt := zZ (shF 10) 0 A ++ (cs ++ y :: zZ (shF 10) (nT A + n + 1) B)
theorem mid_of : zZ (shF 10) 0 (A ++ l :: B) = mid A (zam l) (zhl (shF 10) (nT A) l) B l.length := by
 rw [zc1]; simp [zZ, mid]
theorem ziO {cs : zt} (h : cs.length = l.length) : (mid A cs y B l.length).length = nT (A ++ l :: B) := by
 unfold mid
 simp only [List.length_append, List.length_cons, qm, h, zfv, nT]; omega
theorem zfX {cs : zt} (h : cs.length = l.length) : (mid A cs y B l.length).set (nT A + l.length) z = mid A cs z B l.length := by
 unfold mid
 rw [List.set_append_right _ _ (by rw [qm]; omega), qm, Nat.add_sub_cancel_left, List.set_append_right _ _ (by omega), h, Nat.sub_self]
 rfl
theorem zfY {cs : zt} (h : cs.length = l.length) (hi : i < l.length) : (mid A cs y B l.length).set (nT A + i) z = mid A (cs.set i z) y B l.length := by
 unfold mid
 rw [List.set_append_right _ _ (by rw [qm]; omega), qm, Nat.add_sub_cancel_left, List.set_append_left _ _ (by omega)]
def FixA (rn : List Nat) (d : Nat) (A : List (List Opt)) (l : List Opt) (B : List (List Opt)) : Prop := ∀ t, t < nT (A ++ l :: B) → t < nT A ∨ nT A + l.length < t → rn.getD (t + 10) d = t + 10
theorem ziP (hf : FixA rn d A l B) {cs : zt} (hc : cs.map (qE d rn) = cs) (hy : qE d rn y = y) : (mid A cs y B l.length).map (qE d rn) = mid A cs y B l.length := by
 have hn : nT (A ++ l :: B) = nT A + (l.length + 1 + nT B) := by rw [zfv]; rfl
 unfold mid
 rw [List.map_append, List.map_append, List.map_cons, hc, hy, zap, zap, xD (g := fun q => rn.getD (shF 10 q) d) (g' := shF 10) fun q _ h2 => hf q (by omega) (.inl (by omega)), xD (g := fun q => rn.getD (shF 10 q) d) (g' := shF 10) fun q h1 h2 => hf q (by omega) (.inr (by omega))]
theorem zjb {g : Nat → Nat} : qy g 0 (A ++ l :: B) = qy g 0 A ++ [zmU g (nT A) l] :: qy g (nT A + l.length + 1) B := by
 rw [zf4, Nat.zero_add]; rfl
theorem zjc {z : List AV} (hf : FixA rn d A l B) : (qy (shF 10) 0 A ++ z :: qy (shF 10) (nT A + l.length + 1) B).map (zae d rn) = qy (shF 10) 0 A ++ zae d rn z :: qy (shF 10) (nT A + l.length + 1) B := by
 have hn : nT (A ++ l :: B) = nT A + (l.length + 1 + nT B) := by rw [zfv]; rfl
 rw [List.map_append, List.map_cons, zaK, zaK, xG (g := fun q => rn.getD (shF 10 q) d) (g' := shF 10) fun q _ h2 => hf q (by omega) (.inl (by omega)), xG (g := fun q => rn.getD (shF 10 q) d) (g' := shF 10) fun q h1 h2 => hf q (by omega) (.inr (by omega))]
theorem zeM (hF : fx.length = 10) (h1 : nT A ≤ q) (h2 : q ≤ nT A + l.length) : FixA (fx ++ (List.range' 10 (nT (A ++ l :: B))).set q x) d A l B := fun t ht h => by
 rw [zgv hF ht, if_neg (by omega)]
theorem optO_inv (h : ∀ t, nT A ≤ t → t < nT A + l.length → rn.getD (t + 10) d = t + 10) : qE d rn (zhl (shF 10) (nT A) l) = zhl (shF 10) (nT A) l := by
 rw [zfV]
 unfold zhl
 rw [xi (g := fun q => rn.getD (shF 10 q) d) (g' := shF 10) fun q h1 h2 => h q h1 h2]
end
end Go.Proofs.YtihpjcmloecaaaaGreat.Cw
namespace Go.Proofs.YtihpjcmloecaaaaGreat.Cw
open Go Go.Cw Go.Proofs
set_option linter.unusedVariables false
set_option maxRecDepth 100000
set_option maxHeartbeats 30000000
theorem zi4 {k m id z : Nat} {rows : List (List PV)} (h : id < k ∨ k + m ≤ id) : far k m (slP id z rows) = true := by
 cases rows with
 | nil => rfl
 | cons a l => simp [slP, far]; exact h
theorem zbK {k m : Nat} : ∀ {l : List PV}, zab k m (pvs l) = true
 | [] => rfl
 | p :: l => by simp [pvs, zab, far, zbK (l := l)]
theorem znX {n : Nat} {m : Model} {A : List (List Opt)} {l : List Opt} {R : List (List AV)} {x5 x7 : Option AObj} {Γ' G0 : zw} (hR : qy (shF 8) 0 A = R)
  (hG : ∀ d rest, q7 d (0 :: 1 :: 2 :: rest) Γ' G0) :
  zD n 0 Γ' (zdX m :: zfj :: zdx (.ms 6 1 0 (R.length + 1)) qr qr m.rules :: none :: obM 62 6 (qa (shF 8) (nT A) l) :: x5 :: some ⟨51, 1, false, .m (R ++ [[slC 4 6 (qa (shF 8) (nT A) l)]])⟩ :: x7 :: (zZ (shF 8) 0 A ++ zam l)) G0 (hpO m (A ++ [l]) none) := by
 have hN : nT (A ++ [l]) = nT A + l.length + 1 := zoF
 have hg : ∀ {d : Nat} q, q ≤ nT A + l.length → ([0, 1, 2, 6, 3, 5, 7, 8 + (nT A + l.length)] ++ (List.range' 8 (nT A + l.length) ++ [4])).getD (shF 8 q) d = if q = nT A + l.length then 4 else shF 8 q := fun q hq => zgw (by rfl) hq
 have hcl : ∀ d, (qy (shF 8) 0 (A ++ [l])).map (zae d ([0, 1, 2, 6, 3, 5, 7, 8 + (nT A + l.length)] ++ (List.range' 8 (nT A + l.length) ++ [4]))) = R ++ [[slC 4 6 (qa (shF 8) (nT A) l)]] := fun d => by
  rw [zaK, zf4]
  congr 1
  · rw [← hR]
    exact xG fun q _ h2 => by rw [hg q (by omega), if_neg (by omega)]
  · simp only [qy, Nat.zero_add]
    congr 2
    cases l with
    | nil => rfl
    | cons o t =>
      simp only [zmU]
      rw [show t.length + 1 = (o :: t).length from rfl, hg _ (Nat.le_refl _), if_pos rfl, zc4 (by rw [qQ]; simp), qQ]
 have hY : zZ (shF 8) 0 (A ++ [l]) = (zZ (shF 8) 0 A ++ zam l) ++ [zhl (shF 8) (nT A) l] := by
  rw [zc1]; simp [zZ]
 have hYr : ∀ d, (zZ (shF 8) 0 (A ++ [l])).map (qE d ([0, 1, 2, 6, 3, 5, 7, 8 + (nT A + l.length)] ++ (List.range' 8 (nT A + l.length) ++ [4]))) = (zZ (shF 8) 0 A ++ zam l) ++ [zhl (shF 8) (nT A) l] := fun d => by
  rw [hY, List.map_append, List.map_append, zbg, zap, xD (g' := shF 8) fun q _ h2 => by rw [hg q (by omega), if_neg (by omega)]]
  simp only [List.map_cons, List.map_nil, zfV]
  unfold zhl
  rw [xi (g' := shF 8) fun q _ h2 => by rw [hg q (by omega), if_neg (by omega)]]
 refine zJ ([0, 1, 2, 6, 3, 5, 7, 8 + (nT A + l.length)] ++ (List.range' 8 (nT A + l.length) ++ [4])) (ziD ?_ ?_) rfl ?_ (hG _ _)
 · apply zcO
   simp
   omega
 · intro a ha
   simp at ha
   omega
 · show zaz _ _ _ (0 :: 1 :: 2 :: 6 :: 3 :: 5 :: 7 :: (8 + (nT A + l.length)) :: (List.range' 8 (nT A + l.length) ++ [4])) _
   refine ⟨rfl, rfl, qR rfl ?_ rfl rfl (xt (rows' := R ++ [[slC 4 6 (qa (shF 8) (nT A) l)]]) ?_ (hcl _) ?_)⟩
   · rw [xU, hcl, ziy]; rfl
   · rw [ziJ]; rfl
   · show zaz _ _ _ (List.range' 8 (nT A + l.length) ++ [4]) (zZ (shF 8) 0 (A ++ [l]))
     refine zdG ?_ fun q i hq o ho => ?_
     · rw [qm, hN, List.length_append, List.length_range']; rfl
     · rw [hYr] at ho
       have hlen : (zZ (shF 8) 0 A ++ zam l).length = nT A + l.length := by rw [List.length_append, qm, qA]
       rcases Nat.lt_or_ge q (nT A + l.length) with h | h
       · rw [List.getElem?_append_left (by rw [List.length_range']; exact h), List.getElem?_range' h, Nat.one_mul] at hq
         injection hq with hq
         subst hq
         rw [List.getElem?_append_left (by rw [hlen]; exact h)] at ho
         rw [show 8 + q = q + 8 from Nat.add_comm _ _]
         exact ho
       · rw [List.getElem?_append_right (by rw [List.length_range']; exact h), List.length_range'] at hq
         rw [List.getElem?_append_right (by rw [hlen]; exact h), hlen] at ho
         obtain ⟨rfl⟩ : q = nT A + l.length := by
          rcases Nat.lt_or_ge (q - (nT A + l.length)) 1 with h3 | h3
          · omega
          · rw [List.getElem?_eq_none (by simpa using h3)] at hq; cases hq
         rw [Nat.sub_self] at hq ho
         obtain rfl : 4 = i := by simpa using hq
         exact (Option.some.inj ho) ▸ rfl
theorem c_twin (m : Model) (h1 : m.classes.length ≤ 1000) (h2 : ∀ l ∈ m.classes, l.length ≤ 1000) (h3 : ∀ l ∈ m.classes, ∀ o ∈ l, o.charges.length ≤ 1000) (h4 : m.pairs.length ≤ 100000) (h5 : ∀ p ∈ m.pairs, p.table.length ≤ 100000) (h6 : m.counts.length ≤ 1000) (h7 : ∀ c ∈ m.counts, c.loads.length ≤ 100000) :
  qf Tryz.prog 50 [ag m.cells] [] (fun r H' => r = .agg [slC 0 1 (qy (shF 1) 0 m.classes), .pv (.sl 4 (m.pairs.map Pair.row)), .pv (.sl 4 (m.counts.map Count.row)), .pv (ei m.rules)] ∧ H' = obM 51 1 (qy (shF 1) 0 m.classes) :: zZ (shF 1) 0 m.classes) := by
 obtain ⟨MC, MP, CC, MR⟩ := m
 dsimp only at h1 h2 h3 h4 h5 h6 h7 ⊢
 refine zh tok mixed 83 rfl (fn := Tryz.f50) (c := Tryz.f50.body.getD .skip) (by kernel_rfl) (by kernel_rfl) (by kernel_rfl) rfl 0 rfl ?_
 repeat' (first | refine o1 ?_ | refine o2 ?_ | refine k1 ?_ | refine k2 ?_ | refine k4 ?_ | refine And.intro ?_ ?_ | exact (by kernel_rfl : zn _ _ = true) | refine za ?_ | fail)
 refine zB (fun k : Nat => [(1, .ptr 0 4 0 0), (2, .ptr 1 4 0 0), (3, .ptr 2 4 0 0), (17, .pv (.sl 1 (MC.map zA))), (18, zg .i64 MC.length), (19, zg .i64 k)]) (fun k => hpO ⟨MC, MP, CC, MR⟩ (MC.take k) none) (fun k => k ≤ MC.length) (fun k => MC.length - k) 0 (Nat.zero_le _) ?_ ?_
 · refine zD.trans (zD.shut (i := 2) (c := 0) (x := qr) (y := qr) (y' := .clip 1 []) rfl rfl rfl True.intro (by simp [zby, zmx, zaW, qr]) (zeA 1)) ?_
   exact zJ [0, 1, 2, 3, 4, 5, 6, 7] rfl rfl (by repeat' (first | exact trivial | exact rfl | refine And.intro ?_ ?_)) (by repeat' (first | exact trivial | exact rfl | refine And.intro ?_ ?_))
 intro k hk
 dsimp only [hpO]
 rcases Nat.lt_or_ge k MC.length with hlt | hge
 · obtain ⟨l, hl⟩ := qj hlt
   have hll := h2 l (List.mem_of_getElem? hl)
   have hlc := h3 l (List.mem_of_getElem? hl)
   have hAl : MC.take (k + 1) = MC.take k ++ [l] := by rw [List.take_add_one, hl]; rfl
   have hAk : (MC.take k).length = k := by rw [List.length_take]; omega
   generalize MC.take k = A at *
   generalize hT : zZ (shF 8) 0 A = T at *
   generalize hR : qy (shF 8) 0 A = R at *
   refine zq ?_
   repeat' (first | refine o1 ?_ | refine o2 ?_ | refine k1 ?_ | refine k2 ?_ | refine k3 ?_ | refine k4 ?_ | refine k6 ?_ | refine And.intro ?_ ?_ | (intro h; first | exact Bool.noConfusion h | exact nz _ h | exact nl h | (simp at h; done) | (simp at h; first | (exfalso; omega) | skip) | skip) | refine za ?_ | refine ⟨_, _, (by first | rfl | assumption), zf (by assumption), ?_⟩ | fail)
   refine zB (fun i : Nat => [(1, .ptr 0 4 0 0), (2, .ptr 1 4 0 0), (3, .ptr 2 4 0 0), (17, .pv (.sl 1 (MC.map zA))), (18, zg .i64 MC.length), (19, zg .i64 k), (23, .pv (.sl 6 (l.map Opt.row))), (24, zg .i64 l.length), (25, zg .i64 i), (6, slC 4 6 (qa (shF 8) (nT A) (l.take i)))]) (fun i => zdX ⟨MC, MP, CC, MR⟩ :: zfj :: zdx (slC 3 1 R) qr qr MR :: obM 51 1 R :: obM 62 6 (qa (shF 8) (nT A) (l.take i)) :: none :: none :: none :: (T ++ zam (l.take i))) (fun i => i ≤ l.length) (fun i => l.length - i) 0 (Nat.zero_le _) ?_ ?_
   · refine zD.trans (zD.weak (s := 6) (x := qr) (y := .clip 6 []) rfl (zeA 6)) ?_
     refine zJ ([0, 1, 2, 3, 4, 5, 6, 7] ++ List.range' 8 (nT A)) (zbb rfl (by decide)) rfl ?_ (by repeat' (first | exact trivial | exact rfl | refine And.intro ?_ ?_))
     show zaz _ _ _ (0 :: 1 :: 2 :: 3 :: 4 :: 5 :: 6 :: 7 :: List.range' 8 (nT A)) _
     refine ⟨rfl, rfl, qR rfl ?_ rfl rfl (xt rfl ?_ (zfy rfl ?_ ?_ ?_))⟩
     · rw [xU, ← hR, zef (F := 8) (by rfl) (Nat.le_refl _)]; rfl
     · rw [← hR, zef (F := 8) (by rfl) (Nat.le_refl _)]
     · rw [List.length_append, ← hT, qm]; rfl
     · rw [List.map_append, ← hT, zfP (F := 8) (by rfl) (Nat.le_refl _)]; rfl
     · intro q o ho
       exact (congrArg (·[q]?) (List.append_nil T)).symm.trans ho
   intro i hi
   rcases Nat.lt_or_ge i l.length with hlt2 | hge2
   · obtain ⟨o, ho⟩ := qj hlt2
     have hoc := hlc o (List.mem_of_getElem? ho)
     have hfT : ∀ k m, k + m ≤ 8 → zcl k m 8 (T ++ zam (l.take i)) := fun k m h => by
      rw [← hT]
      exact zbd (zaq (fun q => by show k + m ≤ q + 8; omega) h) (zdJ (by omega))
     have hfR : ∀ k m, k + m ≤ 8 → ∀ r ∈ R, zab k m r = true := fun k m h => by
      rw [← hR]
      exact zbL (fun q => by show k + m ≤ q + 8; omega)
     have hfO : ∀ k m, k + m ≤ 8 → ∀ r ∈ qa (shF 8) (nT A) (l.take i), zab k m r = true := fun k m h => zb8 (fun q => by show k + m ≤ q + 8; omega)
     have hro : (qa (shF 8) (nT A) (l.take i)).length = i := by rw [qQ, List.length_take]; omega
     have hf5 : zcl 5 1 0 (zdX ⟨MC, MP, CC, MR⟩ :: zfj :: zdx (slC 3 1 R) qr qr MR :: obM 51 1 R :: obM 62 6 (qa (shF 8) (nT A) (l.take i)) :: none :: none :: none :: (T ++ zam (l.take i))) := by
      refine ⟨.inl (by decide), rfl, .inl (by decide), rfl, .inl (by decide), ?_, zac (.inl (by decide)) (hfR 5 1 (by decide)) (zac (.inl (by decide)) (hfO 5 1 (by decide)) (hfT 5 1 (by decide)))⟩
      simp [zo8, zab, far, qr, xw]
     have hf6 : zcl 6 2 0 (zdX ⟨MC, MP, CC, MR⟩ :: zfj :: zdx (slC 3 1 R) qr qr MR :: obM 51 1 R :: obM 62 6 (qa (shF 8) (nT A) (l.take i)) :: some ⟨62, 6, false, .box (pvs o.row)⟩ :: none :: none :: (T ++ zam (l.take i))) := by
      refine ⟨.inl (by decide), rfl, .inl (by decide), rfl, .inl (by decide), ?_, zac (.inl (by decide)) (hfR 6 2 (by decide)) (zac (.inl (by decide)) (hfO 6 2 (by decide)) ⟨.inl (by decide), rfl, hfT 6 2 (by decide)⟩)⟩
      simp [zo8, zab, far, qr, xw]
     generalize hRO : qa (shF 8) (nT A) (l.take i) = RO at *
     generalize hTT : T ++ zam (l.take i) = TT at *
     have hb : (RO.length + 1) * 64 ≤ 140737488355328 := by omega
     have hn : RO.length + 1 ≤ 9223372036854775807 := by omega
     have hcl := c_cloneQ o.charges (Nat.le_trans hoc (by decide))
     obtain ⟨pl, cs⟩ := o
     rcases cs with _ | ⟨c0, C0⟩
     · refine zq ?_
       repeat' (first | (refine zh5 ?_) | (refine zbs ?_) | ((show zU _ _ _ _ (.seq (.block 3 _) _) _ _ _; refine zoU ([(1, .ptr 0 4 0 0), (2, .ptr 1 4 0 0), (3, .ptr 2 4 0 0), (17, .pv (.sl 1 (MC.map zA))), (18, zg .i64 MC.length), (19, zg .i64 k), (23, .pv (.sl 6 (l.map Opt.row))), (24, zg .i64 l.length), (25, zg .i64 i)] ++ [(6, slC 4 6 (qa (shF 8) (nT A) (l.take (i + 1))))]) (zdX ⟨MC, MP, CC, MR⟩ :: zfj :: zdx (slC 3 1 R) qr qr MR :: obM 51 1 R :: obM 62 6 (qa (shF 8) (nT A) (l.take (i + 1))) :: none :: none :: none :: (zZ (shF 8) 0 A ++ zam (l.take (i + 1)))) ?_ ?_)) | ((show zD _ _ _ _ _ _; refine zbR ?_)) | ((show zU _ _ _ _ (.region 8 _ _) _ _ _; refine zN (k := 5) (qZ.room (Nat.zero_le _) (Nat.le_of_ble_eq_true rfl) (fun _ _ h => h) (show zbk 5 1 _ = true by simp [zbk, zab, far, xw, zg, zo]) hf5) ?_)) | ((change zP TT _; refine zq ?_)) | ((show zU _ _ _ _ (.region 9 _ _) _ _ _; refine zdv (k := 6) (qZ.room (Nat.zero_le _) (Nat.le_of_ble_eq_true rfl) (fun _ _ h => h) (show zbk 6 2 _ = true by simp [zbk, zab, far, xw, zg, zo]) hf6) ?_)) | ((change zp _ _ _ _ _; refine zig [.pv (.sl 2 (([] : List Charge).map Charge.row))] (N := TT.length + 8) rfl rfl hcl ?_)) | ((change zP (TT ++ _) _; refine zq ?_)) | ((refine zp3 (j := 8) (rem0 := [9]) (rem1 := [9]) rfl rfl rfl rfl rfl rfl rfl ?_; refine zk0 (rows := RO) (id := 4) (idx := 6) rfl rfl rfl rfl rfl rfl rfl hb hn ?_)) | refine o1 ?_ | refine o2 ?_ | refine k1 ?_ | refine k2 ?_ | refine k3 ?_ | refine k4 ?_ | refine k6 ?_ | refine And.intro ?_ ?_ | exact trivial | refine o5 ?_ | refine o6 ?_ | (intro h; first | exact Bool.noConfusion h | exact nz _ h | exact nl h | (simp at h; done) | (simp at h; first | (exfalso; omega) | skip) | skip) | exact (by kernel_rfl : zn _ _ = true) | refine zc (by omega) (by omega) ?_ | refine ⟨_, _, (by first | rfl | assumption), zf (by assumption), ?_⟩ | fail)
       all_goals first
        | (refine Later.mk ?_
           refine zkE (o := ⟨pl, []⟩) (m := ⟨MC, MP, CC, MR⟩) hR ho hRO (by rw [hT]; exact hTT) ?_ (fun q x h => h) rfl (fun d rest => ?_)
           · rfl
           · repeat' (first | exact trivial | exact rfl | refine And.intro ?_ ?_))
        | (refine ⟨i + 1, hlt2, by omega, ?_⟩
           subst hT
           exact zco (by repeat (first | exact zdH | refine zci rfl ?_)))
     · refine zq ?_
       repeat' (first | (refine zh5 ?_) | (refine zbs ?_) | ((show zU _ _ _ _ (.seq (.block 3 _) _) _ _ _; refine zoU ([(1, .ptr 0 4 0 0), (2, .ptr 1 4 0 0), (3, .ptr 2 4 0 0), (17, .pv (.sl 1 (MC.map zA))), (18, zg .i64 MC.length), (19, zg .i64 k), (23, .pv (.sl 6 (l.map Opt.row))), (24, zg .i64 l.length), (25, zg .i64 i)] ++ [(6, slC 4 6 (qa (shF 8) (nT A) (l.take (i + 1))))]) (zdX ⟨MC, MP, CC, MR⟩ :: zfj :: zdx (slC 3 1 R) qr qr MR :: obM 51 1 R :: obM 62 6 (qa (shF 8) (nT A) (l.take (i + 1))) :: none :: none :: none :: (zZ (shF 8) 0 A ++ zam (l.take (i + 1)))) ?_ ?_)) | ((show zD _ _ _ _ _ _; refine zbR ?_)) | ((show zU _ _ _ _ (.region 8 _ _) _ _ _; refine zN (k := 5) (qZ.room (Nat.zero_le _) (Nat.le_of_ble_eq_true rfl) (fun _ _ h => h) (show zbk 5 1 _ = true by simp [zbk, zab, far, xw, zg, zo]) hf5) ?_)) | ((change zP TT _; refine zq ?_)) | ((show zU _ _ _ _ (.region 9 _ _) _ _ _; refine zdv (k := 6) (qZ.room (Nat.zero_le _) (Nat.le_of_ble_eq_true rfl) (fun _ _ h => h) (show zbk 6 2 _ = true by simp [zbk, zab, far, xw, zg, zo]) hf6) ?_)) | ((change zp _ _ _ _ _; refine zig [.pv (.sl 2 ((c0 :: C0).map Charge.row))] (N := TT.length + 8) rfl rfl hcl ?_)) | ((change zP (TT ++ _) _; refine zq ?_)) | ((refine zp3 (j := 8) (rem0 := [9]) (rem1 := [9]) rfl rfl rfl rfl rfl rfl rfl ?_; refine zk0 (rows := RO) (id := 4) (idx := 6) rfl rfl rfl rfl rfl rfl rfl hb hn ?_)) | refine o1 ?_ | refine o2 ?_ | refine k1 ?_ | refine k2 ?_ | refine k3 ?_ | refine k4 ?_ | refine k6 ?_ | refine And.intro ?_ ?_ | exact trivial | refine o5 ?_ | refine o6 ?_ | (intro h; first | exact Bool.noConfusion h | exact nz _ h | exact nl h | (simp at h; done) | (simp at h; first | (exfalso; omega) | skip) | skip) | exact (by kernel_rfl : zn _ _ = true) | refine zc (by omega) (by omega) ?_ | refine ⟨_, _, (by first | rfl | assumption), zf (by assumption), ?_⟩ | fail)
       all_goals first
        | (refine Later.mk ?_
           refine zkE (o := ⟨pl, c0 :: C0⟩) (m := ⟨MC, MP, CC, MR⟩) hR ho hRO (by rw [hT]; exact hTT) ?_ (fun q x h => h) rfl (fun d rest => ?_)
           · rfl
           · repeat' (first | exact trivial | exact rfl | refine And.intro ?_ ?_))
        | (refine ⟨i + 1, hlt2, by omega, ?_⟩
           subst hT
           exact zco (by repeat (first | exact zdH | refine zci rfl ?_)))
   · obtain rfl : i = l.length := by omega
     have hlt' : l.take l.length = l := List.take_length
     rw [hlt'] at *
     have hfT : ∀ k m, k + m ≤ 8 → zcl k m 8 (T ++ zam l) := fun k m h => by
      rw [← hT]
      exact zbd (zaq (fun q => by show k + m ≤ q + 8; omega) h) (zdJ (by omega))
     have hfR : ∀ k m, k + m ≤ 8 → ∀ r ∈ R, zab k m r = true := fun k m h => by
      rw [← hR]
      exact zbL (fun q => by show k + m ≤ q + 8; omega)
     have hfO : ∀ k m, k + m ≤ 8 → ∀ r ∈ qa (shF 8) (nT A) l, zab k m r = true := fun k m h => zb8 (fun q => by show k + m ≤ q + 8; omega)
     have hro : (qa (shF 8) (nT A) l).length = l.length := qQ
     have hRl : R.length = k := by rw [← hR, zbf, hAk]
     have hf5 : zcl 5 2 0 (zdX ⟨MC, MP, CC, MR⟩ :: zfj :: zdx (slC 3 1 R) qr qr MR :: obM 51 1 R :: obM 62 6 (qa (shF 8) (nT A) l) :: none :: none :: none :: (T ++ zam l)) := by
      refine ⟨.inl (by decide), rfl, .inl (by decide), rfl, .inl (by decide), ?_, zac (.inl (by decide)) (hfR 5 2 (by decide)) (zac (.inl (by decide)) (hfO 5 2 (by decide)) (hfT 5 2 (by decide)))⟩
      simp [zo8, zab, far, qr, xw]
     have hbk := fun (Γ' : zw) (x5 x7 : Option AObj) (G0 : zw) => znX (n := 83) (m := ⟨MC, MP, CC, MR⟩) (l := l) (x5 := x5) (x7 := x7) (Γ' := Γ') (G0 := G0) hR
     rw [← hAl, hT] at hbk
     generalize hRO : qa (shF 8) (nT A) l = RO at *
     generalize hTT : T ++ zam l = TT at *
     have hb : (R.length + 1) * 24 ≤ 140737488355328 := by omega
     have hn : R.length + 1 ≤ 9223372036854775807 := by omega
     refine zq ?_
     rcases RO with _ | ⟨r0, RO⟩
     all_goals
      repeat' (first | (refine zh5 ?_) | (refine zbs ?_) | ((show zU _ _ _ _ (.region 11 _ _) _ _ _; refine zN (k := 5) (qZ.room (Nat.zero_le _) (Nat.le_of_ble_eq_true rfl) (fun _ _ h => h) (show zbk 5 2 _ = true by simp [zbk, zab, far, xw, zg, zo, slC]) hf5) ?_)) | ((change zP TT _; refine zq ?_)) | ((refine zmh (rows := R) (id := 3) (idx := 5) rfl rfl rfl rfl rfl rfl rfl rfl rfl rfl rfl hb hn ?_)) | refine o1 ?_ | refine o2 ?_ | refine k1 ?_ | refine k2 ?_ | refine k3 ?_ | refine k8 ?_ | refine And.intro ?_ ?_ | (intro h; first | exact Bool.noConfusion h | exact nz _ h | exact nl h | (simp at h; done) | (simp at h; first | (exfalso; omega) | skip) | skip) | refine zc (by omega) (by omega) ?_ | fail)
      refine ⟨k + 1, hlt, by omega, ?_⟩
      refine hbk _ _ _ _ (fun d rest => ?_)
      repeat' (first | exact trivial | exact rfl | refine And.intro ?_ ?_)
 · obtain rfl : k = MC.length := by omega
   have hlt' : MC.take MC.length = MC := List.take_length
   rw [hlt'] at *
   have hidT : ∀ d (fx : List Nat), fx.length = 8 → (zZ (shF 8) 0 MC).map (qE d (fx ++ List.range' 8 (nT MC))) = zZ (shF 8) 0 MC := fun d fx h => zfP h (Nat.le_refl _)
   have hidR : ∀ d (fx : List Nat), fx.length = 8 → (qy (shF 8) 0 MC).map (zae d (fx ++ List.range' 8 (nT MC))) = qy (shF 8) 0 MC := fun d fx h => zef h (Nat.le_refl _)
   have hTl : (zZ (shF 8) 0 MC).length = nT MC := qm
   have hfT : ∀ k m, k + m ≤ 8 → zcl k m 8 (zZ (shF 8) 0 MC) := fun k m h => zaq (fun q => by show k + m ≤ q + 8; omega) h
   have hfR : ∀ k m, k + m ≤ 8 → ∀ r ∈ qy (shF 8) 0 MC, zab k m r = true := fun k m h => zbL (fun q => by show k + m ≤ q + 8; omega)
   generalize hT : zZ (shF 8) 0 MC = T at *
   generalize hR : qy (shF 8) 0 MC = R at *
   refine zq ?_
   repeat' (first | refine o1 ?_ | refine o2 ?_ | refine k1 ?_ | refine k2 ?_ | refine k3 ?_ | refine k4 ?_ | refine k8 ?_ | refine And.intro ?_ ?_ | (intro h; first | exact Bool.noConfusion h | exact nz _ h | exact nl h | (simp at h; done) | (simp at h; first | (exfalso; omega) | skip) | skip) | refine za ?_ | fail)
   refine zB (fun k : Nat => [(1, .ptr 0 4 0 0), (2, .ptr 1 4 0 0), (3, .ptr 2 4 0 0), (47, .pv (.sl 4 (MP.map Pair.row))), (48, zg .i64 MP.length), (49, zg .i64 k)]) (fun k => zdX ⟨MC, MP, CC, MR⟩ :: zfj :: zdx (slC 3 1 R) (slP 4 4 ((MP.take k).map Pair.row)) qr MR :: obM 51 1 R :: obP 72 4 ((MP.take k).map Pair.row) :: none :: none :: none :: T) (fun k => k ≤ MP.length) (fun k => MP.length - k) 0 (Nat.zero_le _) ?_ ?_
   · refine zJ ([0, 1, 2, 3, 4, 5, 6, 7] ++ List.range' 8 (nT MC)) (zbb rfl (by decide)) rfl ?_ (by repeat' (first | exact trivial | exact rfl | refine And.intro ?_ ?_))
     show zaz _ _ _ (0 :: 1 :: 2 :: 3 :: 4 :: 5 :: 6 :: 7 :: List.range' 8 (nT MC)) _
     refine ⟨rfl, rfl, qR rfl ?_ rfl rfl (xt rfl (hidR _ _ rfl) (zfy rfl hTl (hidT _ _ rfl) fun q o ho => ho))⟩
     rw [xU, hidR _ _ rfl]; rfl
   intro k hk
   rcases Nat.lt_or_ge k MP.length with hlt | hge
   · obtain ⟨p, hp⟩ := qj hlt
     have hpt := zpP p.table (h5 p (List.mem_of_getElem? hp))
     have hto : MP.take (k + 1) = MP.take k ++ [p] := by rw [List.take_add_one, hp]; rfl
     have hro : ((MP.take k).map Pair.row).length = k := by rw [List.length_map, List.length_take]; omega
     have hf5 : zcl 5 1 0 (zdX ⟨MC, MP, CC, MR⟩ :: zfj :: zdx (slC 3 1 R) (slP 4 4 ((MP.take k).map Pair.row)) qr MR :: obM 51 1 R :: obP 72 4 ((MP.take k).map Pair.row) :: none :: none :: none :: T) := by
      refine ⟨.inl (by decide), rfl, .inl (by decide), rfl, .inl (by decide), ?_, zac (.inl (by decide)) (hfR 5 1 (by decide)) (zf3 (.inl (by decide)) (hfT 5 1 (by decide)))⟩
      simp [zo8, zab, far, qr, xw, zi4]
     have hf6 : ∀ b, zcl 6 2 0 (zdX ⟨MC, MP, CC, MR⟩ :: zfj :: zdx (slC 3 1 R) (slP 4 4 ((MP.take k).map Pair.row)) qr MR :: obM 51 1 R :: obP 72 4 ((MP.take k).map Pair.row) :: some ⟨72, 4, false, .box (pvs b)⟩ :: none :: none :: T) := fun b => by
      refine ⟨.inl (by decide), rfl, .inl (by decide), rfl, .inl (by decide), ?_, zac (.inl (by decide)) (hfR 6 2 (by decide)) (zf3 (.inl (by decide)) ⟨.inl (by decide), zbK, hfT 6 2 (by decide)⟩)⟩
      simp [zo8, zab, far, qr, xw, zi4]
     generalize hRO : (MP.take k).map Pair.row = RO at *
     have hb : (RO.length + 1) * 48 ≤ 140737488355328 := by omega
     have hn : RO.length + 1 ≤ 9223372036854775807 := by omega
     refine zq ?_
     repeat' (first | (refine zbs ?_) | (refine xl ?_) | (refine z6 ?_) | ((change zP T _; refine zq ?_)) | ((show zU _ _ _ _ (.region 15 _ _) _ _ _; refine zN (k := 5) (qZ.room (Nat.zero_le _) (Nat.le_of_ble_eq_true rfl) (fun _ _ h => h) (show zbk 5 1 _ = true by simp [zbk, zab, far, zg, zo]) hf5) ?_)) | ((show zU _ _ _ _ (.region 17 _ _) _ _ _; refine zN (k := 6) (qZ.room (Nat.zero_le _) (Nat.le_of_ble_eq_true rfl) (fun _ _ h => h) (show zbk 6 2 _ = true by simp [zbk, zab, far, zg, zo]) (hf6 p.row)) ?_)) | ((change zp _ _ _ _ _; refine qw rfl (by repeat' (first | trivial | refine And.intro ?_ ?_ | (show 0 + _ ≤ List.length _; simp))) zW.refl hpt ?_; rintro _ rfl)) | ((refine zbB (rows := RO) (id := 4) (idx := 6) rfl rfl rfl rfl rfl rfl rfl rfl rfl rfl rfl hb hn ?_)) | refine o1 ?_ | refine o2 ?_ | refine k1 ?_ | refine k2 ?_ | refine k3 ?_ | refine k4 ?_ | refine k6 ?_ | refine And.intro ?_ ?_ | (intro h; first | exact Bool.noConfusion h | exact nz _ h | exact nl h | (simp at h; done) | (simp at h; first | (exfalso; omega) | skip) | skip) | exact (by kernel_rfl : zn _ _ = true) | refine zc (by omega) (by omega) ?_ | refine ⟨_, _, (by first | rfl | assumption), zf (by assumption), ?_⟩ | fail)
     refine ⟨k + 1, hlt, by omega, ?_⟩
     rw [hto, zM, hRO]
     refine zJ ([0, 1, 2, 3, 7, 5, 6, 4] ++ List.range' 8 (nT MC)) (zbb rfl (by decide)) rfl ?_ (by repeat' (first | exact trivial | exact rfl | refine And.intro ?_ ?_))
     show zaz _ _ _ (0 :: 1 :: 2 :: 3 :: 7 :: 5 :: 6 :: 4 :: List.range' 8 (nT MC)) _
     refine ⟨rfl, rfl, qR rfl ?_ ?_ ?_ (xt rfl (hidR _ _ rfl) (zu ?_ (zfy rfl hTl (hidT _ _ rfl) fun q o ho => ho)))⟩
     · rw [xU, hidR _ _ rfl]; rfl
     · rw [zft, qn]; rfl
     · rfl
     · rw [qo]; rfl
   · obtain rfl : k = MP.length := by omega
     have hlt' : MP.take MP.length = MP := List.take_length
     rw [hlt']
     generalize hRO : MP.map Pair.row = RO at *
     refine zq ?_
     repeat' (first | refine o1 ?_ | refine o2 ?_ | refine k1 ?_ | refine k2 ?_ | refine k3 ?_ | refine k4 ?_ | refine k8 ?_ | refine And.intro ?_ ?_ | (intro h; first | exact Bool.noConfusion h | exact nz _ h | exact nl h | (simp at h; done) | (simp at h; first | (exfalso; omega) | skip) | skip) | refine za ?_ | fail)
     refine zB (fun k : Nat => [(1, .ptr 0 4 0 0), (2, .ptr 1 4 0 0), (3, .ptr 2 4 0 0), (65, .pv (.sl 4 (CC.map Count.row))), (66, zg .i64 CC.length), (67, zg .i64 k)]) (fun k => zdX ⟨MC, MP, CC, MR⟩ :: zfj :: zdx (slC 3 1 R) (.pv (.sl 4 RO)) (slP 4 4 ((CC.take k).map Count.row)) MR :: obM 51 1 R :: obP 78 4 ((CC.take k).map Count.row) :: none :: none :: none :: T) (fun k => k ≤ CC.length) (fun k => CC.length - k) 0 (Nat.zero_le _) ?_ ?_
     · refine zD.shut_sl (i := 2) (c := 1) (id := 4) (rows := RO) rfl rfl rfl (by decide) fun H' hl h2 hk => ?_
       have hh : ∀ j : Nat, j ≠ 4 → j ≠ 2 → H'[j]? = _ := hk
       refine zJ ([0, 1, 2, 3, 4, 5, 6, 7] ++ List.range' 8 (nT MC)) (zbb rfl (by decide)) rfl ?_ (by repeat' (first | exact trivial | exact rfl | refine And.intro ?_ ?_))
       show zaz _ _ _ (0 :: 1 :: 2 :: 3 :: 4 :: 5 :: 6 :: 7 :: List.range' 8 (nT MC)) _
       refine ⟨(hk 0 (by decide) (by decide)).trans rfl, (hk 1 (by decide) (by decide)).trans rfl, qR (h2.trans rfl) ?_ rfl rfl (xt ((hk 3 (by decide) (by decide)).trans rfl) (hidR _ _ rfl) (zfy rfl hTl (hidT _ _ rfl) fun q o ho => (hk _ (by omega) (by omega)).trans ho))⟩
       rw [xU, hidR _ _ rfl]; rfl
     intro k hk
     rcases Nat.lt_or_ge k CC.length with hlt | hge
     · obtain ⟨p, hp⟩ := qj hlt
       have hpt := zpN p.loads (h7 p (List.mem_of_getElem? hp))
       have hto : CC.take (k + 1) = CC.take k ++ [p] := by rw [List.take_add_one, hp]; rfl
       have hro : ((CC.take k).map Count.row).length = k := by rw [List.length_map, List.length_take]; omega
       have hf5 : zcl 5 1 0 (zdX ⟨MC, MP, CC, MR⟩ :: zfj :: zdx (slC 3 1 R) (.pv (.sl 4 RO)) (slP 4 4 ((CC.take k).map Count.row)) MR :: obM 51 1 R :: obP 78 4 ((CC.take k).map Count.row) :: none :: none :: none :: T) := by
        refine ⟨.inl (by decide), rfl, .inl (by decide), rfl, .inl (by decide), ?_, zac (.inl (by decide)) (hfR 5 1 (by decide)) (zf3 (.inl (by decide)) (hfT 5 1 (by decide)))⟩
        simp [zo8, zab, far, qr, xw, zi4]
       have hf6 : ∀ b, zcl 6 2 0 (zdX ⟨MC, MP, CC, MR⟩ :: zfj :: zdx (slC 3 1 R) (.pv (.sl 4 RO)) (slP 4 4 ((CC.take k).map Count.row)) MR :: obM 51 1 R :: obP 78 4 ((CC.take k).map Count.row) :: some ⟨78, 4, false, .box (pvs b)⟩ :: none :: none :: T) := fun b => by
        refine ⟨.inl (by decide), rfl, .inl (by decide), rfl, .inl (by decide), ?_, zac (.inl (by decide)) (hfR 6 2 (by decide)) (zf3 (.inl (by decide)) ⟨.inl (by decide), zbK, hfT 6 2 (by decide)⟩)⟩
        simp [zo8, zab, far, qr, xw, zi4]
       generalize hCO : (CC.take k).map Count.row = CO at *
       have hb : (CO.length + 1) * 48 ≤ 140737488355328 := by omega
       have hn : CO.length + 1 ≤ 9223372036854775807 := by omega
       subst hRO
       refine zq ?_
       repeat' (first | (refine zbs ?_) | (refine xl ?_) | (refine z6 ?_) | ((change zP T _; refine zq ?_)) | ((show zU _ _ _ _ (.region 21 _ _) _ _ _; refine zN (k := 5) (qZ.room (Nat.zero_le _) (Nat.le_of_ble_eq_true rfl) (fun _ _ h => h) (show zbk 5 1 _ = true by simp [zbk, zab, far, zg, zo]) hf5) ?_)) | ((show zU _ _ _ _ (.region 23 _ _) _ _ _; refine zN (k := 6) (qZ.room (Nat.zero_le _) (Nat.le_of_ble_eq_true rfl) (fun _ _ h => h) (show zbk 6 2 _ = true by simp [zbk, zab, far, zg, zo]) (hf6 p.row)) ?_)) | ((change zp _ _ _ _ _; refine qw rfl (by repeat' (first | trivial | refine And.intro ?_ ?_ | (show 0 + _ ≤ List.length _; simp))) zW.refl hpt ?_; rintro _ rfl)) | ((refine zbB (rows := CO) (id := 4) (idx := 6) rfl rfl rfl rfl rfl rfl rfl rfl rfl rfl rfl hb hn ?_)) | refine o1 ?_ | refine o2 ?_ | refine k1 ?_ | refine k2 ?_ | refine k3 ?_ | refine k4 ?_ | refine k6 ?_ | refine And.intro ?_ ?_ | (intro h; first | exact Bool.noConfusion h | exact nz _ h | exact nl h | (simp at h; done) | (simp at h; first | (exfalso; omega) | skip) | skip) | exact (by kernel_rfl : zn _ _ = true) | refine zc (by omega) (by omega) ?_ | refine ⟨_, _, (by first | rfl | assumption), zf (by assumption), ?_⟩ | fail)
       refine ⟨k + 1, hlt, by omega, ?_⟩
       rw [hto, zM, hCO]
       refine zJ ([0, 1, 2, 3, 7, 5, 6, 4] ++ List.range' 8 (nT MC)) (zbb rfl (by decide)) rfl ?_ (by repeat' (first | exact trivial | exact rfl | refine And.intro ?_ ?_))
       show zaz _ _ _ (0 :: 1 :: 2 :: 3 :: 7 :: 5 :: 6 :: 4 :: List.range' 8 (nT MC)) _
       refine ⟨rfl, rfl, qR rfl ?_ ?_ ?_ (xt rfl (hidR _ _ rfl) (zu ?_ (zfy rfl hTl (hidT _ _ rfl) fun q o ho => ho)))⟩
       · rw [xU, hidR _ _ rfl]; rfl
       · rfl
       · rw [zft, qn]; rfl
       · rw [qo]; rfl
     · obtain rfl : k = CC.length := by omega
       have hlt' : CC.take CC.length = CC := List.take_length
       rw [hlt']
       generalize hCO : CC.map Count.row = CO at *
       refine zq ?_
       repeat' (first | ((show zU _ _ _ _ (.seq (.region 25 _ _) _) _ _ _; refine zbR ?_)) | refine o1 ?_ | refine o2 ?_ | refine k1 ?_ | refine k2 ?_ | refine k3 ?_ | refine k8 ?_ | refine And.intro ?_ ?_ | (intro h; first | exact Bool.noConfusion h | exact nz _ h | exact nl h | (simp at h; done) | (simp at h; first | (exfalso; omega) | skip) | skip) | fail)
       refine ⟨?_⟩
       refine qh (Γ' := [(2, .ptr 1 4 0 0), (3, .ptr 2 4 0 0)]) (H' := zdX ⟨MC, MP, CC, MR⟩ :: zfj :: zdx (slC 3 1 R) (.pv (.sl 4 RO)) (.pv (.sl 4 CO)) MR :: obM 51 1 R :: none :: none :: none :: none :: T) ?_ ?_
       · refine zD.shut_sl (i := 2) (c := 2) (id := 4) (rows := CO) rfl rfl rfl (by decide) fun H' hl h2 hk => ?_
         refine zJ ([0, 1, 2, 3, 4, 5, 6, 7] ++ List.range' 8 (nT MC)) (zbb rfl (by decide)) rfl ?_ (by repeat' (first | exact trivial | exact rfl | refine And.intro ?_ ?_))
         show zaz _ _ _ (0 :: 1 :: 2 :: 3 :: 4 :: 5 :: 6 :: 7 :: List.range' 8 (nT MC)) _
         refine ⟨(hk 0 (by decide) (by decide)).trans rfl, (hk 1 (by decide) (by decide)).trans rfl, qR (h2.trans rfl) ?_ rfl rfl (xt ((hk 3 (by decide) (by decide)).trans rfl) (hidR _ _ rfl) (zfy rfl hTl (hidT _ _ rfl) fun q o ho => (hk _ (by omega) (by omega)).trans ho))⟩
         rw [xU, hidR _ _ rfl]; rfl
       · have fin : ∀ (x2 : Option AObj) (y : AV), y = slC 3 1 R → zx 0 (.agg [y, .pv (.sl 4 RO), .pv (.sl 4 CO), .pv (ei MR)]) (zdX ⟨MC, MP, CC, MR⟩ :: x2 :: zdx y (.pv (.sl 4 RO)) (.pv (.sl 4 CO)) MR :: obM 51 1 R :: none :: none :: none :: none :: T) (fun r H' => r = .agg [slC 0 1 (qy (shF 1) 0 MC), .pv (.sl 4 RO), .pv (.sl 4 CO), .pv (ei MR)] ∧ H' = obM 51 1 (qy (shF 1) 0 MC) :: zZ (shF 1) 0 MC) := fun x2 y hy => by
          subst hy
          have hg : ∀ (d q : Nat), 0 ≤ q → q < 0 + nT MC → (3 :: List.range' 8 (nT MC)).getD (shF 1 q) d = shF 8 q := fun d q _ h => by
           show (List.range' 8 (nT MC)).getD q d = q + 8
           rw [List.getD_eq_getElem?_getD, List.getElem?_range' (by omega), Nat.one_mul, Nat.add_comm]
           rfl
          have hc : ∀ d, (qy (shF 1) 0 MC).map (zae d (3 :: List.range' 8 (nT MC))) = R := fun d => by
           rw [zaK, ← hR]
           exact xG (hg d)
          refine qC (3 :: List.range' 8 (nT MC)) (obM 51 1 (qy (shF 1) 0 MC) :: zZ (shF 1) 0 MC) ?_ rfl ?_ (r' := .agg [slC 0 1 (qy (shF 1) 0 MC), .pv (.sl 4 RO), .pv (.sl 4 CO), .pv (ei MR)]) ?_ ⟨rfl, rfl⟩
          · exact zbb (fx := [3]) rfl (by decide)
          · refine xt rfl (hc _) ?_
            refine zdG (by rw [qm, List.length_range']) fun q i hq o ho => ?_
            have hq2 : q < nT MC := by
             have := (List.getElem?_eq_some_iff.1 hq).1
             rwa [List.length_range'] at this
            rw [List.getElem?_range' hq2, Nat.one_mul] at hq
            injection hq with hq
            subst hq
            rw [zap, xD (hg _), hT] at ho
            rw [show 8 + q = q + 8 from Nat.add_comm _ _]
            exact ho
          · show _ = AV.agg [xP _ _ (slC 0 1 (qy (shF 1) 0 MC)), .pv (.sl 4 RO), .pv (.sl 4 CO), .pv (ei MR)]
            rw [xU, hc]; rfl
         clear hidR hidT
         rcases R with _ | ⟨r0, R⟩
         all_goals
          repeat' (first | (refine zbs ?_) | ((change zP T _; refine zq ?_)) | ((change zx _ _ _ _; exact fin _ _ rfl)) | refine o1 ?_ | refine o2 ?_ | refine k1 ?_ | refine k2 ?_ | refine k7 ?_ | fail)
end Go.Proofs.YtihpjcmloecaaaaGreat.Cw
namespace Go.Proofs.YtihpjcmloecaaaaGreat.Cw
open Go Go.Cw Go.Proofs
set_option linter.unusedVariables false
set_option maxRecDepth 100000
set_option maxHeartbeats 8000000
theorem zcD {H Hc : zt} {d i : Nat} {rn l : List Nat} {x : Option AObj} (h : H[i]? = some (qE d rn x)) (hk : zaz H d rn l Hc) : zaz H d rn (i :: l) (x :: Hc) := by
 cases x with
 | none => exact hk
 | some o => exact ⟨h, hk⟩
def zhV (A B : List (List Opt)) : Nat := A.length + (B.length + 1)
def hS0 (m : Model) (P C : PV) (R : Int) (x4 x5 : Option AObj) (L : List (List Opt)) : zt :=
 zdX m :: zfj :: zdx (slC 3 1 (qy (shF 10) 0 L)) (.pv P) (.pv C) R :: obM 51 1 (qy (shF 10) 0 L) :: x4 :: x5 :: none :: none :: none :: none :: zZ (shF 10) 0 L
def hS1 (m : Model) (P C : PV) (R : Int) (x4 x5 : Option AObj) (A : List (List Opt)) (l : List Opt) (B : List (List Opt)) : zt :=
 zdX m :: zfj :: zdx (.ms 3 1 0 (zhV A B)) (.pv P) (.pv C) R :: some ⟨51, 1, false, .m (qy (shF 10) 0 A ++ [.ms 6 6 0 l.length] :: qy (shF 10) (nT A + l.length + 1) B)⟩ :: x4 :: x5 ::
  some ⟨62, 6, false, .m (qa (shF 10) (nT A) l)⟩ :: none :: none :: none :: mid A (zam l) none B l.length
def gX (q x : Nat) : Nat → Nat := fun t => if q = t then x else shF 10 t
def hS2 (m : Model) (P C : PV) (R : Int) (x4 x5 : Option AObj) (A : List (List Opt)) (l : List Opt) (B : List (List Opt)) (i : Nat) (rows : List (List AV)) (x7 x8 x9 : Option AObj) : zt :=
 zdX m :: zfj :: zdx (.ms 3 1 0 (zhV A B)) (.pv P) (.pv C) R :: some ⟨51, 1, false, .m (qy (shF 10) 0 A ++ [.ms 6 6 0 l.length] :: qy (shF 10) (nT A + l.length + 1) B)⟩ :: x4 :: x5 ::
  some ⟨62, 6, false, .m rows⟩ :: x7 :: x8 :: x9 :: mid A ((zam l).set i none) none B l.length
def zqa (x : Option AObj) : Prop := ∀ d rest, qE d (0 :: 1 :: 2 :: 3 :: 4 :: 5 :: rest) x = x
section
variable {n i j : Nat} {m : Model} {P C : PV} {R : Int} {x4 x5 x7 x8 x9 : Option AObj} {A B : List (List Opt)} {l l' : List Opt} {o o' : Opt} {Γ G : zw} {rows : List (List AV)}
theorem ze8 : nT (A ++ l :: B) = nT A + (l.length + 1 + nT B) := by rw [zfv]; rfl
theorem zcJ : (qy (shF 10) 0 (A ++ l :: B)).length = zhV A B := by rw [zbf]; simp [zhV]
theorem zer {fx : List Nat} {q x N : Nat} (hfx : fx.length = 10) (h : fx.Nodup) (hx : ∀ a ∈ fx, (a < 10 ∧ a ≠ x) ∨ a = q + 10) (hx10 : x < 10) (hq : q < N) : zfF (fx ++ (List.range' 10 N).set q x) = true := rnS_allD h hx hx10 hq
theorem zmD (h4 : zqa x4) (h5 : zqa x5) (hl : 0 < l.length) (hG : ∀ d rest, q7 d (0 :: 1 :: 2 :: 3 :: 4 :: 5 :: rest) Γ G) : zD n 0 Γ (hS0 m P C R x4 x5 (A ++ l :: B)) G (hS1 m P C R x4 x5 A l B) := by
 have hp : nT A + l.length < nT (A ++ l :: B) := by rw [ze8]; omega
 refine zJ ([0, 1, 2, 3, 4, 5, nT A + l.length + 10, 7, 8, 9] ++ (List.range' 10 (nT (A ++ l :: B))).set (nT A + l.length) 6) (zer rfl (by simp <;> omega) (by intro a ha; simp at ha; omega) (by decide) hp) rfl ?_ (hG _ _)
 have hg : ∀ (d t : Nat), t < nT (A ++ l :: B) → ([0, 1, 2, 3, 4, 5, nT A + l.length + 10, 7, 8, 9] ++ (List.range' 10 (nT (A ++ l :: B))).set (nT A + l.length) 6).getD (t + 10) d = if nT A + l.length = t then 6 else t + 10 := fun d t ht => zgv rfl ht
 have hf : ∀ d, FixA ([0, 1, 2, 3, 4, 5, nT A + l.length + 10, 7, 8, 9] ++ (List.range' 10 (nT (A ++ l :: B))).set (nT A + l.length) 6) d A l B := fun d => zeM rfl (by omega) (Nat.le_refl _)
 have hr : (qy (shF 10) 0 (A ++ l :: B)) = qy (shF 10) 0 A ++ [.ms (nT A + l.length + 10) 6 0 l.length] :: qy (shF 10) (nT A + l.length + 1) B := by
  rw [zjb]
  cases l with
  | nil => simp at hl
  | cons a t => rfl
 show zaz _ _ _ (0 :: 1 :: 2 :: 3 :: 4 :: 5 :: (nT A + l.length + 10) :: 7 :: 8 :: 9 :: (List.range' 10 (nT (A ++ l :: B))).set (nT A + l.length) 6) _
 refine ⟨rfl, rfl, qR (x' := .ms 3 1 0 (zhV A B)) ?_ rfl rfl rfl ⟨?_, zcD ?_ (zcD ?_ ⟨?_, ?_⟩)⟩⟩
 · show some (zdx (slC 3 1 (qy (shF 10) 0 (A ++ l :: B))) _ _ _) = _
   rw [zc4 (by rw [zcJ]; unfold zhV; omega), zcJ]; rfl
 · show some (obM _ 1 (qy (shF 10) 0 (A ++ l :: B))) = _
   rw [zbV (by rw [zcJ]; unfold zhV; omega), hr]
   simp only [zd8, q0]
   rw [zjc (hf _)]
   rfl
 · show some x4 = _
   exact congrArg some (h4 _ _).symm
 · show some x5 = _
   exact congrArg some (h5 _ _).symm
 · show (zZ (shF 10) 0 (A ++ l :: B))[nT A + l.length]? = _
   rw [opt_at]
   unfold zhl
   rw [zbV (by rw [qQ]; exact hl)]
   simp only [zd8, q0]
   rw [zaO]
   congr 4
   exact (xi fun q h1 h2 => (hg _ q (by omega)).trans (if_neg (by omega))).symm
 · show zaz _ _ _ ((List.range' 10 (nT (A ++ l :: B))).set (nT A + l.length) 6) (mid A (zam l) none B l.length)
   rw [← zfX (y := zhl (shF 10) (nT A) l) qA]
   refine zeE (ziO qA) hp ?_ (fun t o _ ho => ?_) (.inl rfl)
   · rw [zfX qA]; exact ziP (hf _) zbg rfl
   · rw [← mid_of] at ho; exact ho
theorem zmC (hl : 0 < l.length) (hG : ∀ d rest, q7 d (0 :: 1 :: 2 :: 3 :: 4 :: 5 :: rest) Γ G) : zD n 0 Γ (hS1 m P C R x4 x5 A l B) G (hS0 m P C R none none (A ++ l :: B)) := by
 have hp : nT A + l.length < nT (A ++ l :: B) := by rw [ze8]; omega
 refine zJ ([0, 1, 2, 3, 4, 5, nT A + l.length + 10, 7, 8, 9] ++ (List.range' 10 (nT (A ++ l :: B))).set (nT A + l.length) 6) (zer rfl (by simp <;> omega) (by intro a ha; simp at ha; omega) (by decide) hp) rfl ?_ (hG _ _)
 have hg : ∀ (d t : Nat), t < nT (A ++ l :: B) → ([0, 1, 2, 3, 4, 5, nT A + l.length + 10, 7, 8, 9] ++ (List.range' 10 (nT (A ++ l :: B))).set (nT A + l.length) 6).getD (t + 10) d = if nT A + l.length = t then 6 else t + 10 := fun d t ht => zgv rfl ht
 have hf : ∀ d, FixA ([0, 1, 2, 3, 4, 5, nT A + l.length + 10, 7, 8, 9] ++ (List.range' 10 (nT (A ++ l :: B))).set (nT A + l.length) 6) d A l B := fun d => zeM rfl (by omega) (Nat.le_refl _)
 have hr : (qy (shF 10) 0 (A ++ l :: B)) = qy (shF 10) 0 A ++ [.ms (nT A + l.length + 10) 6 0 l.length] :: qy (shF 10) (nT A + l.length + 1) B := by
  rw [zjb]
  cases l with
  | nil => simp at hl
  | cons a t => rfl
 have hri : ∀ d, (qy (shF 10) 0 (A ++ l :: B)).map (zae d ([0, 1, 2, 3, 4, 5, nT A + l.length + 10, 7, 8, 9] ++ (List.range' 10 (nT (A ++ l :: B))).set (nT A + l.length) 6)) = qy (shF 10) 0 A ++ [.ms 6 6 0 l.length] :: qy (shF 10) (nT A + l.length + 1) B := fun d => by
  rw [hr, zjc (hf _)]
  congr 2
  show [AV.ms _ 6 0 l.length] = _
  rw [hg _ _ hp, if_pos rfl]
 show zaz _ _ _ (0 :: 1 :: 2 :: 3 :: 4 :: 5 :: (nT A + l.length + 10) :: 7 :: 8 :: 9 :: (List.range' 10 (nT (A ++ l :: B))).set (nT A + l.length) 6) _
 refine ⟨rfl, rfl, qR rfl ?_ rfl rfl (xt (rows' := qy (shF 10) 0 A ++ [.ms 6 6 0 l.length] :: qy (shF 10) (nT A + l.length + 1) B) ?_ (hri _) ?_)⟩
 · rw [xU, hri, zc4 (by simp; omega)]
   simp [zbf, zhV]
 · rw [zbV (by simp; omega)]; rfl
 · show zaz _ _ _ ((List.range' 10 (nT (A ++ l :: B))).set (nT A + l.length) 6) (zZ (shF 10) 0 (A ++ l :: B))
   rw [mid_of, ← zfX (y := none) qA]
   refine zeE (ziO qA) hp ?_ (fun t o _ ho => ho) (.inr ?_)
   · rw [zfX qA]; exact ziP (hf _) zbg (optO_inv fun t h1 h2 => by rw [hg _ t (by omega), if_neg (by omega)])
   · show some (some _) = _
     unfold zhl
     rw [zbV (by rw [qQ]; exact hl)]
theorem zmB (h4 : zqa x4) (h5 : zqa x5) (ho : l[i]? = some o) (hG : ∀ d rest, q7 d (0 :: 1 :: 2 :: 3 :: 4 :: 5 :: 6 :: rest) Γ G) :
  zD n 0 Γ (hS1 m P C R x4 x5 A l B) G (hS2 m P C R x4 x5 A l B i (qa (gX (nT A + i) 7) (nT A) l) (chO o.charges) none none) := by
 have hi := (List.getElem?_eq_some_iff.1 ho).1
 have hp : nT A + i < nT (A ++ l :: B) := by rw [ze8]; omega
 refine zJ ([0, 1, 2, 3, 4, 5, 6, nT A + i + 10, 8, 9] ++ (List.range' 10 (nT (A ++ l :: B))).set (nT A + i) 7) (zer rfl (by simp <;> omega) (by intro a ha; simp at ha; omega) (by decide) hp) rfl ?_ (hG _ _)
 have hg : ∀ (d t : Nat), t < nT (A ++ l :: B) → ([0, 1, 2, 3, 4, 5, 6, nT A + i + 10, 8, 9] ++ (List.range' 10 (nT (A ++ l :: B))).set (nT A + i) 7).getD (t + 10) d = if nT A + i = t then 7 else t + 10 := fun d t ht => zgv rfl ht
 have hf : ∀ d, FixA ([0, 1, 2, 3, 4, 5, 6, nT A + i + 10, 8, 9] ++ (List.range' 10 (nT (A ++ l :: B))).set (nT A + i) 7) d A l B := fun d => zeM rfl (by omega) (by omega)
 show zaz _ _ _ (0 :: 1 :: 2 :: 3 :: 4 :: 5 :: 6 :: (nT A + i + 10) :: 8 :: 9 :: (List.range' 10 (nT (A ++ l :: B))).set (nT A + i) 7) _
 refine ⟨rfl, rfl, qR rfl rfl rfl rfl ⟨?_, zcD ?_ (zcD ?_ ⟨?_, zcD ?_ ?_⟩)⟩⟩
 · show some (some _) = _
   simp only [zd8, q0]
   rw [zjc (hf _)]
   rfl
 · show some x4 = _
   exact congrArg some (h4 _ _).symm
 · show some x5 = _
   exact congrArg some (h5 _ _).symm
 · show some (some _) = _
   simp only [zd8, q0]
   rw [zaO]
   congr 4
   refine xi fun t h1 h2 => ?_
   by_cases e : nT A + i = t
   · subst e
     show _ = ([0, 1, 2, 3, 4, 5, 6, nT A + i + 10, 8, 9] ++ _).getD (gX (nT A + i) 7 (nT A + i)) _
     rw [show gX (nT A + i) 7 (nT A + i) = 7 from if_pos rfl]
     rfl
   · show t + 10 = List.getD _ (gX (nT A + i) 7 t) _
     rw [show gX (nT A + i) 7 t = t + 10 from if_neg e, hg _ t (by rw [ze8]; omega), if_neg e]
 · show (mid A (zam l) none B l.length)[nT A + i]? = _
   rw [zg8]
   unfold mid
   rw [List.getElem?_append_right (by rw [qm]; omega), qm, Nat.add_sub_cancel_left, List.getElem?_append_left (by rw [qA]; exact hi)]
   unfold zam
   rw [List.getElem?_map, ho]; rfl
 · show zaz _ _ _ ((List.range' 10 (nT (A ++ l :: B))).set (nT A + i) 7) (mid A ((zam l).set i none) none B l.length)
   rw [← zfY qA hi]
   refine zeE (ziO qA) hp ?_ (fun t o _ ho => ho) (.inl rfl)
   rw [zfY qA hi]
   refine ziP (hf _) ?_ rfl
   rw [List.map_set, zbg]; rfl
theorem zbJ {x : Nat} (hx : 7 ≤ x ∧ x < 10) (h4 : zqa x4) (h5 : zqa x5) (ho : l[i]? = some o) (hpl : o'.place = o.place) (hrows : rows = (qa (shF 10) (nT A) l).set i (zdU (chC x o'.charges) o.place)) (hx9 : chO o'.charges = none ∨ [x7, x8, x9][x - 7]? = some (chO o'.charges)) (hl' : l' = l.set i o')
  (hG : ∀ d rest, q7 d (0 :: 1 :: 2 :: 3 :: 4 :: 5 :: 6 :: rest) Γ G) : zD n 0 Γ (hS2 m P C R x4 x5 A l B i rows x7 x8 x9) G (hS1 m P C R x4 x5 A l' B) := by
 have hi := (List.getElem?_eq_some_iff.1 ho).1
 have hll : l'.length = l.length := by rw [hl', List.length_set]
 have hnn : nT (A ++ l' :: B) = nT (A ++ l :: B) := nT_same hll
 have hp : nT A + i < nT (A ++ l' :: B) := by rw [ze8]; omega
 have hfx : ∃ fx : List Nat, [0, 1, 2, 3, 4, 5, 6] ++ fx = [0, 1, 2, 3, 4, 5, 6, 7, 8, 9].set x (nT A + i + 10) ∧ fx.length = 3 := by
  obtain rfl | rfl | rfl : x = 7 ∨ x = 8 ∨ x = 9 := by omega
  · exact ⟨_, rfl, rfl⟩
  · exact ⟨_, rfl, rfl⟩
  · exact ⟨_, rfl, rfl⟩
 obtain ⟨fx, hfx, hfl⟩ := hfx
 have hnd : ([0, 1, 2, 3, 4, 5, 6] ++ fx).Nodup ∧ ∀ a ∈ [0, 1, 2, 3, 4, 5, 6] ++ fx, (a < 10 ∧ a ≠ x) ∨ a = nT A + i + 10 := by
  rw [hfx]
  obtain rfl | rfl | rfl : x = 7 ∨ x = 8 ∨ x = 9 := by omega
  all_goals
   refine ⟨?_, fun a ha => ?_⟩
   · simp <;> omega
   · simp at ha; omega
 refine zJ (([0, 1, 2, 3, 4, 5, 6] ++ fx) ++ (List.range' 10 (nT (A ++ l' :: B))).set (nT A + i) x) (zer (by simp [hfl]) hnd.1 hnd.2 hx.2 hp) rfl ?_ (hG _ _)
 have hg : ∀ (d t : Nat), t < nT (A ++ l' :: B) → (([0, 1, 2, 3, 4, 5, 6] ++ fx) ++ (List.range' 10 (nT (A ++ l' :: B))).set (nT A + i) x).getD (t + 10) d = if nT A + i = t then x else t + 10 := fun d t ht => zgv (by simp [hfl]) ht
 have hf : ∀ d, FixA (([0, 1, 2, 3, 4, 5, 6] ++ fx) ++ (List.range' 10 (nT (A ++ l' :: B))).set (nT A + i) x) d A l' B := fun d => zeM (by simp [hfl]) (by omega) (by omega)
 obtain ⟨f7, f8, f9, rfl⟩ : ∃ a b c, fx = [a, b, c] := by
  match fx, hfl with
  | [a, b, c], _ => exact ⟨a, b, c, rfl⟩
 show zaz _ _ _ (0 :: 1 :: 2 :: 3 :: 4 :: 5 :: 6 :: f7 :: f8 :: f9 :: (List.range' 10 (nT (A ++ l' :: B))).set (nT A + i) x) _
 refine ⟨rfl, rfl, qR rfl rfl rfl rfl ⟨?_, zcD ?_ (zcD ?_ ⟨?_, ?_⟩)⟩⟩
 · show some (some _) = _
   simp only [zd8, q0]
   rw [zjc (hf _), hll]
   rfl
 · show some x4 = _
   exact congrArg some (h4 _ _).symm
 · show some x5 = _
   exact congrArg some (h5 _ _).symm
 · show some (some _) = _
   simp only [zd8, q0]
   rw [zaO, hrows, ← zl5 ho hpl, hl']
   congr 4
   refine xi fun t h1 h2 => ?_
   rw [List.length_set] at h2
   subst hl'
   exact (hg _ t (by rw [ze8, hll]; omega)).symm
 · show zaz _ _ _ ((List.range' 10 (nT (A ++ l' :: B))).set (nT A + i) x) (mid A (zam l') none B l'.length)
   have hc : zam l' = ((zam l).set i none).set i (chO o'.charges) := by
    rw [List.set_set, hl']; unfold zam; rw [List.map_set]
   have hcl : ((zam l).set i none).length = l'.length := by rw [List.length_set, qA, hll]
   rw [hc, ← zfY hcl (by omega)]
   refine zeE (ziO hcl) hp ?_ (fun t o _ ho => ?_) ?_
   · rw [zfY hcl (by omega), ← hc]
     exact ziP (hf _) zbg rfl
   · rw [hll] at ho; exact ho
   · rcases hx9 with h | h
     · exact .inl h
     · refine .inr ?_
       obtain rfl | rfl | rfl : x = 7 ∨ x = 8 ∨ x = 9 := by omega
       all_goals exact h
def hS0p (m : Model) (P C : PV) (R : Int) (x4 x5 : Option AObj) (A : List (List Opt)) (l : List Opt) (B : List (List Opt)) : zt :=
 zdX m :: zfj :: zdx (.ms 3 1 0 (zhV A B)) (.pv P) (.pv C) R :: some ⟨51, 1, false, .m (qy (shF 10) 0 A ++ [.ms (nT A + l.length + 10) 6 0 l.length] :: qy (shF 10) (nT A + l.length + 1) B)⟩ :: x4 :: x5 :: none :: none :: none :: none :: zZ (shF 10) 0 (A ++ l :: B)
theorem zo0 (hl : 0 < l.length) : hS0 m P C R x4 x5 (A ++ l :: B) = hS0p m P C R x4 x5 A l B := by
 unfold hS0 hS0p
 rw [zc4 (by rw [zcJ]; unfold zhV; omega), zcJ, zbV (by rw [zcJ]; unfold zhV; omega), zjb]
 cases l with
 | nil => simp at hl
 | cons a t => rfl
theorem zo4 (h4 : zqa x4) (h5 : zqa x5) (hl : 0 < l.length) (hG : ∀ d rest, q7 d (0 :: 1 :: 2 :: 3 :: 4 :: 5 :: rest) Γ G) : zD n 0 Γ (hS0p m P C R x4 x5 A l B) G (hS1 m P C R x4 x5 A l B) := by
 rw [← zo0 hl]
 exact zmD h4 h5 hl hG
theorem gX_at {q x : Nat} : gX q x q = x := if_pos rfl
theorem zo5 {x : Nat} (ho : l[i]? = some o) : qa (gX (nT A + i) x) (nT A) l = (qa (shF 10) (nT A) l).set i (zdU (chC x o.charges) o.place) := by
 have h := zl5 (g := shF 10) (j := nT A) (x := x) (o' := o) ho rfl
 have e : l.set i o = l := by
  obtain ⟨hi, rfl⟩ := List.getElem?_eq_some_iff.1 ho
  exact List.set_getElem_self hi
 rw [e] at h
 exact h
theorem zls {L : List (List Opt)} (hG : ∀ d rest, q7 d (0 :: 1 :: 2 :: 3 :: rest) Γ G) : zD n 0 Γ (zdX m :: zfj :: zdx (slC 3 1 (qy (shF 4) 0 L)) (.pv P) (.pv C) R :: obM 51 1 (qy (shF 4) 0 L) :: zZ (shF 4) 0 L) G (hS0 m P C R none none L) := by
 have hg : ∀ (d t : Nat), t < nT L → (0 :: 1 :: 2 :: 3 :: (nT L + 4) :: (nT L + 5) :: (nT L + 6) :: (nT L + 7) :: (nT L + 8) :: (nT L + 9) :: List.range' 4 (nT L)).getD (shF 10 t) d = shF 4 t := fun d t ht => by
  show (List.range' 4 (nT L)).getD t d = t + 4
  rw [List.getD_eq_getElem?_getD, List.getElem?_range' ht, Nat.one_mul, Nat.add_comm]; rfl
 have hc : ∀ d, (qy (shF 10) 0 L).map (zae d (0 :: 1 :: 2 :: 3 :: (nT L + 4) :: (nT L + 5) :: (nT L + 6) :: (nT L + 7) :: (nT L + 8) :: (nT L + 9) :: List.range' 4 (nT L))) = qy (shF 4) 0 L := fun d => by
  rw [zaK]
  exact xG fun q _ h => hg _ q (by omega)
 refine zJ (0 :: 1 :: 2 :: 3 :: (nT L + 4) :: (nT L + 5) :: (nT L + 6) :: (nT L + 7) :: (nT L + 8) :: (nT L + 9) :: List.range' 4 (nT L)) ?_ rfl ?_ (hG _ _)
 · apply zcO
   simp [List.mem_range'_1, List.nodup_range']
   omega
 · refine ⟨rfl, rfl, qR rfl ?_ rfl rfl (xt rfl (hc _) ?_)⟩
   · rw [xU, hc]; rfl
   · show zaz _ _ _ (List.range' 4 (nT L)) (zZ (shF 10) 0 L)
     refine zdG (by rw [qm, List.length_range']) fun q i hq o ho => ?_
     have hq2 : q < nT L := by
      have := (List.getElem?_eq_some_iff.1 hq).1
      rwa [List.length_range'] at this
     rw [List.getElem?_range' hq2, Nat.one_mul] at hq
     injection hq with hq
     subst hq
     rw [zap, xD (g' := shF 4) fun q _ h => hg _ q (by omega)] at ho
     rw [show 4 + q = q + 4 from Nat.add_comm _ _]
     exact ho
theorem zlv {L : List (List Opt)} {a0 a1 a2 a4 a5 a6 a7 a8 a9 : Option AObj} {ty : Nat} : qv (a0 :: a1 :: a2 :: obM ty 1 (qy (shF 10) 0 L) :: a4 :: a5 :: a6 :: a7 :: a8 :: a9 :: zZ (shF 10) 0 L) 5 (slC 3 1 (qy (shF 10) 0 L)) = some (.sl 1 (L.map zA)) ∧ okC (a0 :: a1 :: a2 :: obM ty 1 (qy (shF 10) 0 L) :: a4 :: a5 :: a6 :: a7 :: a8 :: a9 :: zZ (shF 10) 0 L) 5 (slC 3 1 (qy (shF 10) 0 L)) := by
 have h : HasT (a0 :: a1 :: a2 :: obM ty 1 (qy (shF 10) 0 L) :: a4 :: a5 :: a6 :: a7 :: a8 :: a9 :: zZ (shF 10) 0 L) (shF 10) 0 L := HasT.of fun q _ => by rw [Nat.zero_add]; rfl
 exact ⟨conv_all (n := 2) h rfl, ok_all (n := 2) h rfl⟩
theorem conv_S0p {a0 a1 a2 a4 a5 a6 a7 a8 a9 : Option AObj} {ty : Nat} (hl : 0 < l.length) :
  qv (a0 :: a1 :: a2 :: some ⟨ty, 1, false, .m (qy (shF 10) 0 A ++ [.ms (nT A + l.length + 10) 6 0 l.length] :: qy (shF 10) (nT A + l.length + 1) B)⟩ :: a4 :: a5 :: a6 :: a7 :: a8 :: a9 :: zZ (shF 10) 0 (A ++ l :: B)) 5 (.ms 3 1 0 (zhV A B)) = some (.sl 1 ((A ++ l :: B).map zA)) ∧
  okC (a0 :: a1 :: a2 :: some ⟨ty, 1, false, .m (qy (shF 10) 0 A ++ [.ms (nT A + l.length + 10) 6 0 l.length] :: qy (shF 10) (nT A + l.length + 1) B)⟩ :: a4 :: a5 :: a6 :: a7 :: a8 :: a9 :: zZ (shF 10) 0 (A ++ l :: B)) 5 (.ms 3 1 0 (zhV A B)) := by
 have h := @zlv (A ++ l :: B) a0 a1 a2 a4 a5 a6 a7 a8 a9 ty
 have e1 : slC 3 1 (qy (shF 10) 0 (A ++ l :: B)) = .ms 3 1 0 (zhV A B) := by rw [zc4 (by rw [zcJ]; unfold zhV; omega), zcJ]
 have e2 : obM ty 1 (qy (shF 10) 0 (A ++ l :: B)) = some ⟨ty, 1, false, .m (qy (shF 10) 0 A ++ [.ms (nT A + l.length + 10) 6 0 l.length] :: qy (shF 10) (nT A + l.length + 1) B)⟩ := by
  rw [zbV (by rw [zcJ]; unfold zhV; omega), zjb]
  cases l with
  | nil => simp at hl
  | cons a t => rfl
 rw [e1, e2] at h
 exact h
theorem conv_two {H : zt} {id z off len : Nat} {p q : PV} {f : FuncId} {caps : List AV} (h : qv H 5 (.ms id z off len) = some p) (h2 : qv H 5 (.fn f caps) = some q) : zav (conv H) [.ms id z off len, .fn f caps] = some [.pv p, .pv q] := by
 simp only [zav, conv, zdt, h, h2]
theorem ok_two {H : zt} {id z off len : Nat} {f : FuncId} {caps : List AV} (h : okC H 5 (.ms id z off len)) (h2 : okC H 5 (.fn f caps)) : za2 (ok1 H) [.ms id z off len, .fn f caps] := ⟨h, h2, trivial⟩
theorem zmI {k m' : Nat} (hk : k + m' ≤ 10) : zcl k m' 10 (zZ (shF 10) 0 (A ++ l :: B)) := zaq (fun q => by show k + m' ≤ q + 10; omega) hk
theorem zi5 {k m' q : Nat} (hk : k + m' ≤ 10) (hq : k + m' ≤ q ∨ q < k) : ∀ r ∈ qy (shF 10) 0 A ++ [.ms q 6 0 l.length] :: qy (shF 10) (nT A + l.length + 1) B, zab k m' r = true := fun r hr => by
 rcases List.mem_append.1 hr with hr | hr
 · exact zbL (fun q => by show k + m' ≤ q + 10; omega) r hr
 · rcases List.mem_cons.1 hr with rfl | hr
   · simp [zab, far]; omega
   · exact zbL (fun q => by show k + m' ≤ q + 10; omega) r hr
theorem far_a : zcl 4 1 0 (hS0p m P C R none none A l B) :=
 ⟨.inl (by decide), zbK, .inl (by decide), rfl, .inl (by decide), rfl, .inl (by decide), zi5 (by decide) (.inl (by omega)), zmI (by decide)⟩
theorem far_b {ty z : Nat} {fz : Bool} {p : PV} : zcl 5 1 0 (hS0p m P C R (some ⟨ty, z, fz, .box [.pv p]⟩) none A l B) :=
 ⟨.inl (by decide), zbK, .inl (by decide), rfl, .inl (by decide), rfl, .inl (by decide), zi5 (by decide) (.inl (by omega)), .inl (by decide), rfl, zmI (by decide)⟩
theorem zgu {z : List AV} {X : List (List AV)} : (qy (shF 10) 0 A ++ z :: X)[A.length]? = some z := by
 rw [List.getElem?_append_right (by rw [zbf]; exact Nat.le_refl _), zbf, Nat.sub_self]; rfl
def bxS (s : List Int) : Option AObj := some ⟨22, 1, false, .box [.pv (.sl 1 (s.map zr))]⟩
def bxK : Option AObj := some ⟨92, 1, false, .box [.fn 51 [.ptr 4 1 0 0]]⟩
theorem zfc {s : List Int} : zqa (bxS s) := fun d rest => rfl
theorem zfd : zqa bxK := fun d rest => rfl
theorem zaa : zqa none := fun d rest => rfl
theorem conv_in {H : zt} {s : List Int} (h7 : H[7]? = some (chO o.charges)) (h4 : H[4]? = some (bxS s)) :
  zav (conv H) [.agg (zdU (chC 7 o.charges) o.place), .ptr 4 1 0 0] = some [ag o.row, .pv (.ia [.sl 1 (s.map zr)])] ∧ za2 (ok1 H) [.agg (zdU (chC 7 o.charges) o.place), .ptr 4 1 0 0] := by
 have e1 := zpi (n := 4) h7
 have e2 := ok_ch (n := 4) h7
 constructor
 · simp only [zav, conv, zdt, zdU, e1, qv, h4, bxS]
   rfl
 · refine ⟨?_, ?_, trivial⟩
   · show za2 (okC H 5) (zdU (chC 7 o.charges) o.place)
     unfold zdU
     simp only [za2]
     cases hc : o.charges with
     | nil => exact ⟨True.intro, True.intro⟩
     | cons x t => rw [hc] at e2; exact ⟨e2, True.intro⟩
   · show okC H 5 (.ptr 4 1 0 0)
     simp only [okC, h4, bxS]
     exact True.intro
theorem gX_far {q x : Nat} (hx : x < 8) (t : Nat) : gX q x t < 8 ∨ 8 + 2 ≤ gX q x t := by
 unfold gX
 split
 · exact .inl hx
 · right; show 8 + 2 ≤ t + 10; omega
theorem zhN {k m' : Nat} {g : Nat → Nat} (h : ∀ q, g q < k ∨ k + m' ≤ g q) : ∀ {l : List Opt} {j : Nat}, ∀ r ∈ qa g j l, zab k m' r = true
 | [], _, r, hr => by cases hr
 | o :: l, j, r, hr => by
   rcases List.mem_cons.1 hr with rfl | hr
   · have hg := h j
     simp only [zdU, zab, far]
     cases hc : o.charges with
     | nil => rfl
     | cons c t => simp [chC, far]; omega
   · exact zhN h (l := l) r hr
theorem far_S2 {q : Nat} {s : List Int} (hx4 : x4 = none ∨ x4 = bxS s) (hx5 : x5 = none ∨ x5 = bxK) : zcl 8 2 0 (hS2 m P C R x4 x5 A l B i (qa (gX q 7) (nT A) l) (chO o.charges) none none) := by
 have ht : zcl 8 2 10 (mid A ((zam l).set i none) none B l.length) := by
  unfold mid
  refine zbd (zaq (fun q => by show 8 + 2 ≤ q + 10; omega) (by decide)) (zbd ?_ ?_)
  · have hch : ∀ (X : zt) (j : Nat), 10 ≤ j → (∀ y ∈ X, y = none ∨ ∃ o : Opt, y = chO o.charges) → zcl 8 2 j X := fun X => by
     induction X with
     | nil => intro j _ _; trivial
     | cons y X ih =>
       intro j hj hy
       have h2 := ih (j + 1) (by omega) fun z hz => hy z (by simp [hz])
       rcases hy y (by simp) with rfl | ⟨o, rfl⟩
       · exact h2
       · cases o.charges with
         | nil => exact h2
         | cons c t => exact ⟨.inr (by omega), trivial, h2⟩
    refine hch _ _ (by omega) fun y hy => ?_
    rcases List.mem_or_eq_of_mem_set hy with hy | rfl
    · obtain ⟨o, _, rfl⟩ := List.mem_map.1 hy
      exact .inr ⟨o, rfl⟩
    · exact .inl rfl
  · exact zaq (fun q => by show 8 + 2 ≤ q + 10; omega) (by simp; omega)
 have h7 : zcl 8 2 7 (chO o.charges :: none :: none :: mid A ((zam l).set i none) none B l.length) := by
  cases o.charges with
  | nil => exact ht
  | cons c t => exact ⟨.inl (by decide), trivial, ht⟩
 have h6 : zcl 8 2 6 (some ⟨62, 6, false, .m (qa (gX q 7) (nT A) l)⟩ :: chO o.charges :: none :: none :: mid A ((zam l).set i none) none B l.length) :=
  ⟨.inl (by decide), zhN (gX_far (by decide)), h7⟩
 have h45 : zcl 8 2 4 (x4 :: x5 :: some ⟨62, 6, false, .m (qa (gX q 7) (nT A) l)⟩ :: chO o.charges :: none :: none :: mid A ((zam l).set i none) none B l.length) := by
  have h5 : zcl 8 2 5 (x5 :: some ⟨62, 6, false, .m (qa (gX q 7) (nT A) l)⟩ :: chO o.charges :: none :: none :: mid A ((zam l).set i none) none B l.length) := by
   rcases hx5 with rfl | rfl
   · exact h6
   · exact ⟨.inl (by decide), rfl, h6⟩
  rcases hx4 with rfl | rfl
  · exact h5
  · exact ⟨.inl (by decide), rfl, h5⟩
 exact ⟨.inl (by decide), zbK, .inl (by decide), rfl, .inl (by decide), rfl, .inl (by decide), zi5 (by decide) (.inr (by decide)), h45⟩
end
end Go.Proofs.YtihpjcmloecaaaaGreat.Cw
namespace Go.Proofs.YtihpjcmloecaaaaGreat.Cw
open Go Go.Cw Go.Proofs
set_option linter.unusedVariables false
set_option maxRecDepth 100000
set_option maxHeartbeats 8000000
theorem c_in (s : List Int) (o : Opt) (hs : s.length ≤ 100000) : zH Tryz.prog 51 [ag o.row, .pv (.ia [.sl 1 (s.map zr)])] (fun r => r = zo (inS s o)) := by
 have hc := zhg s o.place.room hs
 refine zh tok mixed 9 rfl (fn := Tryz.f51) (c := Tryz.f51.body.getD .skip) (by kernel_rfl) (by kernel_rfl) (by kernel_rfl) rfl 0 rfl ?_
 repeat' (first | refine o1 ?_ | refine o2 ?_ | refine k1 ?_ | refine k2 ?_ | refine k7 ?_ | (change zx _ _ _ _; refine zd rfl trivial ?_) | (change zp _ _ _ _ _; refine zC rfl (by repeat' (first | trivial | refine And.intro ?_ ?_ | (show 0 + _ ≤ List.length _; simp))) zW.refl (hc) rfl ?_) | fail)
 rfl
theorem c_inAny (s : List Int) (l : List Opt) (hs : s.length ≤ 100000) (hl : l.length ≤ 100000) : zH Tryz.prog 54 [.pv (.sl 6 (l.map Opt.row)), .pv (.ia [.fn 51 [.ia [.sl 1 (s.map zr)]]])] (fun r => r = zo (l.any (inS s))) := by
 have hc := zkB l 51 [.ia [.sl 1 (s.map zr)]] (inS s) hl fun o _ => c_in s o hs
 refine zh tok mixed 7 rfl (fn := Tryz.f54) (c := Tryz.f54.body.getD .skip) (by kernel_rfl) (by kernel_rfl) (by kernel_rfl) rfl 0 rfl ?_
 repeat' (first | refine o1 ?_ | refine o2 ?_ | refine k1 ?_ | refine k2 ?_ | refine k7 ?_ | (change zx _ _ _ _; refine zd rfl trivial ?_) | (change zp _ _ _ _ _; refine zC rfl (by repeat' (first | trivial | refine And.intro ?_ ?_ | (show 0 + _ ≤ List.length _; simp))) zW.refl (hc) rfl ?_) | fail)
 rfl
theorem zpH (s : List Int) (L : List (List Opt)) (hs : s.length ≤ 100000) (hl : ∀ l ∈ L, l.length ≤ 100000) (hL : L.length ≤ 100000) : zH Tryz.prog 53 [.pv (.sl 1 (L.map zA)), .pv (.fn 54 [.ia [.fn 51 [.ia [.sl 1 (s.map zr)]]]])] (fun r => r = zg .i64 (zmw (fun l => l.any (inS s)) L)) :=
 zfC L 54 [.ia [.fn 51 [.ia [.sl 1 (s.map zr)]]]] (fun l => l.any (inS s)) hL fun l h => c_inAny s l hs (hl l h)
end Go.Proofs.YtihpjcmloecaaaaGreat.Cw
namespace Go.Proofs.YtihpjcmloecaaaaGreat.Cw
open Go Go.Cw Go.Proofs
set_option linter.unusedVariables false
set_option maxRecDepth 100000
set_option maxHeartbeats 8000000
section
variable {m : Model} {R : Int} {s : List Int} {L : List (List Opt)} {k : Nat}
theorem zl2 : ∀ {n : Nat} {l : List Int}, ∀ s ∈ zao m n l, ∃ x t, s = x :: t
 | 0, _, s, h => absurd h List.not_mem_nil
 | n + 1, [], s, h => absurd h List.not_mem_nil
 | n + 1, x :: l, s, h => by
   unfold zao at h
   rcases List.mem_append.1 h with h | h
   · split at h
     · exact absurd h List.not_mem_nil
     · exact ⟨_, _, List.mem_singleton.1 h⟩
   · exact zl2 (n := n) s h
theorem ziz (s : List Int) (h : s ∈ xr m) : ∃ x t, s = x :: t := by
 unfold xr at h
 split at h
 · exact zl2 s h
 · exact absurd h List.not_mem_nil
theorem zm9 {x0 : Int} {t : List Int} {o : Opt} (hs : s = x0 :: t) (h1 : inS s o = true) (h2 : ¬ o.place.room = x0) : zdW R s o = ⟨o.place, o.charges ++ [⟨R, zhx⟩]⟩ := by
 subst hs
 have h3 : hitS (x0 :: t) o = true := by
  unfold hitS
  rw [h1, Bool.true_and]
  exact zaS h2
 unfold zdW
 rw [if_pos h3]
theorem zkC {x0 : Int} {t : List Int} {o : Opt} (hs : s = x0 :: t) (h2 : o.place.room = x0) : zdW R s o = o := by
 subst hs
 have h3 : ¬ hitS (x0 :: t) o = true := by
  unfold hitS
  rw [zaj (show ¬ o.place.room ≠ (x0 :: t).headD 0 from fun h => h h2), Bool.and_false]
  exact Bool.false_ne_true
 unfold zdW
 rw [if_neg h3]
theorem zm8 {o : Opt} (h2 : inS s o = false) : zdW R s o = o := by
 have h3 : ¬ hitS s o = true := by
  unfold hitS
  rw [h2, Bool.false_and]
  exact Bool.false_ne_true
 unfold zdW
 rw [if_neg h3]
theorem any_plc {l l' : List Opt} (h : zhk l = zhk l') : l.any (inS s) = l'.any (inS s) := by
 have e : ∀ l : List Opt, l.any (inS s) = (zhk l).any fun p => pB (p.room ∈ s) := fun l => by unfold zhk; rw [List.any_map]; rfl
 rw [e, e, h]
theorem cls_of (hok : qx m = 0) (hs : s ∈ xr m) (hL : L.map zhk = m.classes.map zhk) : ∃ A l B, L = A ++ l :: B ∧ (∀ a ∈ A, a.any (inS s) = false) ∧ l.any (inS s) = true := by
 obtain ⟨x, t, rfl⟩ := ziz s hs
 have hx := (setsV_ok hok).sub _ hs x (by simp)
 have hx := (((xv m).1 x).1 hx).2
 obtain ⟨l, hl, hxl⟩ := List.mem_flatMap.1 hx
 obtain ⟨o, ho, rfl⟩ := List.mem_map.1 hxl
 have hany : L.any (fun l => l.any (inS (o.place.room :: t))) = true := by
  have e : ∀ L : List (List Opt), L.any (fun l => l.any (inS (o.place.room :: t))) = (L.map zhk).any fun q => q.any fun p => pB (p.room ∈ o.place.room :: t) := fun L => by
   rw [List.any_map]
   congr 1
   funext l
   unfold zhk
   simp only [Function.comp, List.any_map]
   rfl
  rw [e, hL, ← e]
  exact List.any_eq_true.2 ⟨l, hl, List.any_eq_true.2 ⟨o, ho, zaS (by simp)⟩⟩
 clear hL hl hs hx hxl ho
 induction L with
 | nil => simp at hany
 | cons a L ih =>
   cases h : a.any (inS (o.place.room :: t)) with
   | true => exact ⟨[], a, L, rfl, by simp, h⟩
   | false =>
     rw [List.any_cons, h, Bool.false_or] at hany
     obtain ⟨A, l, B, rfl, h1, h2⟩ := ih hany
     refine ⟨a :: A, l, B, rfl, fun x hx => ?_, h2⟩
     rcases List.mem_cons.1 hx with rfl | hx
     · exact h
     · exact h1 x hx
theorem idx_cls {A B : List (List Opt)} {l : List Opt} (h1 : ∀ a ∈ A, a.any (inS s) = false) (h2 : l.any (inS s) = true) : zmw (fun l => l.any (inS s)) (A ++ l :: B) = A.length := by
 refine zeb (fun j hj y hy => ?_) (x := l) (by simp) h2
 rw [List.getElem?_append_left hj] at hy
 exact h1 y (List.mem_of_getElem? hy)
theorem brkC_ch {c : Nat} (h : ∀ l ∈ L, ∀ o ∈ l, o.charges.length ≤ c) : ∀ l ∈ zlN R s L, ∀ o ∈ l, o.charges.length ≤ c + 1 := by
 induction L with
 | nil => intro l hl; cases hl
 | cons a L ih =>
   intro l hl o ho
   simp only [zlN] at hl
   split at hl
   · rcases List.mem_cons.1 hl with rfl | hl
     · obtain ⟨q, hq, rfl⟩ := List.mem_map.1 ho
       have := h a (by simp) q hq
       unfold zdW
       split
       · simp; omega
       · omega
     · have := h l (by simp [hl]) o ho; omega
   · rcases List.mem_cons.1 hl with rfl | hl
     · have := h l (by simp) o ho; omega
     · exact ih (fun l hl => h l (by simp [hl])) l hl o ho
theorem zjg : ∀ {S : List (List Int)} {L : List (List Opt)} {c : Nat}, (∀ l ∈ L, ∀ o ∈ l, o.charges.length ≤ c) → ∀ l ∈ zfK R S L, ∀ o ∈ l, o.charges.length ≤ c + S.length
 | [], _, _, h => h
 | s :: S, L, c, h => by
   have := zjg (S := S) (L := zlN R s L) (brkC_ch h)
   intro l hl o ho
   have := this l hl o ho
   simp only [List.length_cons]; omega
theorem zkD {S : List (List Int)} : zfK R (S ++ [s]) L = zlN R s (zfK R S L) := by simp [zfK]
theorem zla {L L' : List (List Opt)} (h : L.map zhk = L'.map zhk) {n : Nat} (hb : ∀ l ∈ L', l.length ≤ n) : ∀ l ∈ L, l.length ≤ n := fun l hl => by
 have h1 : zhk l ∈ L'.map zhk := h ▸ List.mem_map.2 ⟨l, hl, rfl⟩
 obtain ⟨l', h2, h3⟩ := List.mem_map.1 h1
 have := congrArg List.length h3
 unfold zhk at this
 rw [List.length_map, List.length_map] at this
 have := hb l' h2; omega
theorem zfR : ∀ {n : Nat} {l : List Int}, (zao m n l).length ≤ l.length
 | 0, _ => Nat.zero_le _
 | n + 1, [] => Nat.le_refl _
 | n + 1, x :: l => by
   unfold zao
   have := zfR (n := n) (l := l.filter fun b => !swB m x b)
   have h2 := List.length_filter_le (fun b => !swB m x b) l
   rw [List.length_append, List.length_cons]
   have : (if l.filter (swB m x) = [] then [] else [x :: l.filter (swB m x)]).length ≤ 1 := by split <;> simp
   omega
theorem zl1 (hz : qJ m) (hok : qx m = 0) : ∀ s ∈ xr m, s.length ≤ 100000 := fun s h => by
 unfold xr at h
 rw [if_pos hok] at h
 have := zgl.2 s h
 have := zaQ hz; omega
def lI (f : Opt → Opt) (l : List Opt) (i : Nat) : List Opt := (l.take i).map f ++ l.drop i
theorem lI_all {f : Opt → Opt} {l : List Opt} : lI f l l.length = l.map f := by simp [lI]
theorem lI_len {f : Opt → Opt} {l : List Opt} {i : Nat} (h : i ≤ l.length) : (lI f l i).length = l.length := by simp [lI]; omega
theorem lI_at {f : Opt → Opt} {l : List Opt} {i : Nat} {o : Opt} (h : l[i]? = some o) : (lI f l i)[i]? = some o := by
 have hi := (List.getElem?_eq_some_iff.1 h).1
 unfold lI
 rw [List.getElem?_append_right (by simp; omega)]
 simp only [List.length_map, List.length_take]
 rw [List.getElem?_drop, show i + (i - min i l.length) = i by omega, h]
theorem zoR {f : Opt → Opt} {l : List Opt} {i : Nat} {o : Opt} (h : l[i]? = some o) : lI f l (i + 1) = (lI f l i).set i (f o) := by
 have hi := (List.getElem?_eq_some_iff.1 h).1
 have hd : l.drop i = o :: l.drop (i + 1) := by
  rw [List.drop_eq_getElem_cons hi]
  congr 1
  exact Option.some.inj ((List.getElem?_eq_getElem hi).symm.trans h)
 unfold lI
 rw [List.take_add_one, h, hd, List.set_append_right _ _ (by simp; omega)]
 simp only [List.length_map, List.length_take, Option.toList_some, List.map_append, List.map_cons, List.map_nil, List.append_assoc, List.singleton_append]
 rw [show i - min i l.length = 0 by omega]
 rfl
end
end Go.Proofs.YtihpjcmloecaaaaGreat.Cw
namespace Go.Proofs.YtihpjcmloecaaaaGreat.Cw
open Go Go.Cw Go.Proofs
set_option linter.unusedVariables false
set_option maxRecDepth 100000
set_option maxHeartbeats 30000000
def zeQ : Model := ⟨[], [], [], 0⟩
noncomputable def xJ (m : Model) : Model × Int := if qx m = 0 then (if 56 ≤ m.rules then (zeQ, 2) else (brkM m, 0)) else (zeQ, qx m)
theorem zps {H : zt} {P : Program} {f : FuncId} {args : List AV} {K : AV → zt → Prop} {N ty : Nat} {L : List (List Opt)} {p c : PV} {r : Int} (as0 : List AV) (hN : H.length = N) (ha : args = zae H.length [] as0)
  (hc : qf P f as0 [] (fun x H' => x = .agg [slC 0 1 (qy (shF 1) 0 L), .pv p, .pv c, .pv (ei r)] ∧ H' = obM ty 1 (qy (shF 1) 0 L) :: zZ (shF 1) 0 L))
  (hK : K (.agg [slC N 1 (qy (shF (N + 1)) 0 L), .pv p, .pv c, .pv (ei r)]) (H ++ obM ty 1 (qy (shF (N + 1)) 0 L) :: zZ (shF (N + 1)) 0 L)) : zp P f args H K := by
 refine zaL [] [] as0 rfl trivial ha hc fun x Hc' hp => ?_
 obtain ⟨rfl, rfl⟩ := hp
 subst hN
 refine ⟨Nat.zero_le _, ?_⟩
 have tg : ∀ (a n q : Nat), q < n → (zbx a n)[q]? = some (a + q) := fun a n => by
  induction n generalizing a with
  | zero => intro q h; omega
  | succ n ih =>
    intro q h
    cases q with
    | zero => rfl
    | succ q => simp only [zbx, List.getElem?_cons_succ]; rw [ih (a + 1) q (by omega)]; congr 1; omega
 have hlen : (obM ty 1 (qy (shF 1) 0 L) :: zZ (shF 1) 0 L).length = nT L + 1 := by rw [List.length_cons, qm]
 have hg : ∀ q, q < nT L → (zbx H.length (nT L + 1)).getD (shF 1 q) 0 = shF (H.length + 1) q := fun q hq => by
  rw [List.getD_eq_getElem?_getD, show shF 1 q = q + 1 from rfl, tg _ _ _ (by omega)]
  show H.length + (q + 1) = q + (H.length + 1)
  omega
 have h0 : (zbx H.length (nT L + 1)).getD 0 0 = H.length := by rw [List.getD_eq_getElem?_getD, tg _ _ _ (by omega)]; rfl
 have e1 : (qy (shF 1) 0 L).map (zae 0 (zbx H.length (nT L + 1))) = qy (shF (H.length + 1)) 0 L := by
  rw [zaK]
  exact xG fun q _ h => hg q (by omega)
 have e2 : (zZ (shF 1) 0 L).map (qE 0 (zbx H.length (nT L + 1))) = zZ (shF (H.length + 1)) 0 L := by
  rw [zap]
  exact xD fun q _ h => hg q (by omega)
 have hres : xP 0 (zbx H.length (nT L + 1)) (.agg [slC 0 1 (qy (shF 1) 0 L), .pv p, .pv c, .pv (ei r)]) = .agg [slC H.length 1 (qy (shF (H.length + 1)) 0 L), .pv p, .pv c, .pv (ei r)] := by
  simp only [xP, zae, xU, h0]
  rw [e1]
 have htk : zbP 0 (zbx H.length (nT L + 1)) [] (obM ty 1 (qy (shF 1) 0 L) :: zZ (shF 1) 0 L) H = H ++ obM ty 1 (qy (shF (H.length + 1)) 0 L) :: zZ (shF (H.length + 1)) 0 L := by
  simp only [zbP, List.map_cons, zoC]
  rw [e1, e2]
 simp only [List.length_nil, List.nil_append, Nat.sub_zero, hlen]
 rw [hres, htk]
 exact hK
theorem zjB {m : Model} (hz : qJ m) (hg : zdQ m) {p : Pair} (hp : p ∈ m.pairs) : p.table.length ≤ 576 := by
 obtain ⟨i, hi⟩ := List.getElem?_of_mem hp
 obtain ⟨_, _, _, ⟨a, b, ha, hb, he⟩, _⟩ := (hg.2.1 i (List.getElem?_eq_some_iff.1 hi).1 p hi).1
 rw [he]
 exact Nat.mul_le_mul (hz.2.1 a (List.mem_of_getElem? ha)) (hz.2.1 b (List.mem_of_getElem? hb))
theorem zeC {e : Int} : Leq (.tup [.agg [qr, qr, qr, .pv (ei 0)], zg .i64 e]) (.tup [ag zeQ.cells, zg .i64 e]) := ⟨ALe.tup ⟨ALe.agg ⟨ALe.pv PLe.nil, ALe.pv PLe.nil, ALe.pv PLe.nil, ALe.refl, trivial⟩, ALe.refl, trivial⟩⟩
theorem c_break0 (m : Model) (hl : Laid m) : zH Tryz.prog 22 [ag m.cells] (fun r => Leq r (.tup [ag (xJ m).1.cells, zg .i64 (xJ m).2])) := by
 have hv := zjd m hl
 have hR := zlM m hl
 by_cases hok : qx m = 0
 · by_cases h56 : 56 ≤ m.rules
   · have hbv : xJ m = (zeQ, 2) := by unfold xJ; rw [if_pos hok, if_pos h56]
     rw [hbv]
     rw [hok] at hv
     refine zh tok mixed 87 rfl (fn := Tryz.f22) (c := Tryz.f22.body.getD .skip) (by kernel_rfl) (by kernel_rfl) (by kernel_rfl) rfl 0 rfl ?_
     repeat' (first | refine o1 ?_ | refine o2 ?_ | refine k1 ?_ | refine k2 ?_ | refine k3 ?_ | refine k6 ?_ | refine k7 ?_ | refine And.intro ?_ ?_ | (intro h; first | exact Bool.noConfusion h | exact nz _ h | exact nl h | (simp at h; done) | (simp at h; first | (exfalso; omega) | skip) | skip) | exact (by kernel_rfl : zn _ _ = true) | (change zp _ _ _ _ _; refine zC rfl (by repeat' (first | trivial | refine And.intro ?_ ?_ | (show 0 + _ ≤ List.length _; simp))) zW.refl (hv) rfl ?_) | fail)
     all_goals first
      | (exfalso; omega)
      | (change zx _ _ _ _; refine zd rfl (by repeat' (first | exact True.intro | refine And.intro ?_ ?_)) ?_; exact zeC)
   · have hbv : xJ m = (brkM m, 0) := by unfold xJ; rw [if_pos hok, if_neg h56]
     rw [hbv]
     rw [hok] at hv
     have hz := qP hok
     have hg := zak hok
     have hch : ∀ l ∈ m.classes, ∀ o ∈ l, o.charges.length ≤ 56 := fun l h o ho => zaE (hg.1 l h o ho) hz.2.2.2.2.2
     have ht := c_twin m (by have := hz.1; omega) (fun l h => by have := hz.2.1 l h; omega) (fun l h o ho => by have := hch l h o ho; omega) (by have := hz.2.2.1; omega) (fun p hp => by have := zjB hz hg hp; omega) (by have := hz.2.2.2.1; omega) (fun c hc => by have := zeB hz (hg.2.2 c hc).2.2.2.2; omega)
     have hS : (xr m).length ≤ 100000 := by
      have h1 : (xr m).length ≤ (zS m).length := by unfold xr; rw [if_pos hok]; exact zfR
      have h2 := zaQ hz
      omega
     have hSs : ∀ s ∈ xr m, s.length ≤ 100000 := fun s h => zl1 hz hok s h
     obtain ⟨MC, MP, CC, MR⟩ := m
     have hbM : brkM ⟨MC, MP, CC, MR⟩ = ⟨zfK MR (xr ⟨MC, MP, CC, MR⟩) MC, MP, CC, MR + 1⟩ := rfl
     have hcls := fun {s L} => @cls_of ⟨MC, MP, CC, MR⟩ s L hok
     have hne := fun s => @ziz ⟨MC, MP, CC, MR⟩ s
     have hr0 : 0 ≤ MR := hz.2.2.2.2.1
     have hMC : ∀ l ∈ MC, l.length ≤ 24 := hz.2.1
     have hML : MC.length ≤ 24 := hz.1
     have h56 : MR < 56 := by dsimp only at h56; omega
     generalize xr ⟨MC, MP, CC, MR⟩ = S at *
     rw [hbM]
     clear hbM hbv hz hg hl hok
     refine zh tok mixed 87 rfl (fn := Tryz.f22) (c := Tryz.f22.body.getD .skip) (by kernel_rfl) (by kernel_rfl) (by kernel_rfl) rfl 0 rfl ?_
     repeat' (first | ((show zU _ _ _ _ (.seq (.region 6 _ _) _) _ _ _; refine zoU [(1, .ptr 0 4 0 0), (2, .ptr 1 4 0 0), (5, .ptr 2 4 0 0)] (hS0 ⟨MC, MP, CC, MR⟩ (.sl 4 (MP.map Pair.row)) (.sl 4 (CC.map Count.row)) MR none none MC) (zbR ?_) (zbR ?_))) | refine o1 ?_ | refine o2 ?_ | refine k1 ?_ | refine k2 ?_ | refine k3 ?_ | refine k6 ?_ | refine And.intro ?_ ?_ | (intro h; first | exact Bool.noConfusion h | exact nz _ h | exact nl h | (simp at h; done) | (simp at h; first | (exfalso; omega) | skip) | skip) | exact (by kernel_rfl : zn _ _ = true) | (change zp _ _ _ _ _; refine zC rfl (by repeat' (first | trivial | refine And.intro ?_ ?_ | (show 0 + _ ≤ List.length _; simp))) zW.refl (hv) rfl ?_) | fail)
     all_goals try (exfalso; omega)
     · refine ⟨?_⟩
       have hsh := fun (Γ : zw) (G : zw) hG => zls (n := 87) (Γ := Γ) (G := G) (m := ⟨MC, MP, CC, MR⟩) (P := .sl 4 (MP.map Pair.row)) (C := .sl 4 (CC.map Count.row)) (R := MR) (L := MC) hG
       rcases MC with _ | ⟨l0, L0⟩
       all_goals
        repeat' (first | ((change zp _ _ _ _ _; refine zps (N := 3) [_] rfl rfl ht ?_)) | ((change zP (zZ _ _ _) _; refine zq ?_)) | ((show zD _ _ _ _ _ _; refine zbR ?_)) | refine o1 ?_ | refine o2 ?_ | refine k2 ?_ | refine And.intro ?_ ?_ | exact (by kernel_rfl : zn _ _ = true) | fail)
        refine ⟨?_⟩
        refine hsh _ _ fun d rest => ?_
        repeat' (first | exact trivial | exact rfl | refine And.intro ?_ ?_)
     · refine ⟨?_⟩
       repeat' (first | (refine zbs ?_) | ((change zP (zZ _ _ _) _; refine zq ?_)) | ((change zp _ _ _ _ _; refine qw rfl (by repeat' (first | trivial | refine And.intro ?_ ?_ | (show 0 + _ ≤ List.length _; simp))) zW.refl hR ?_; rintro _ rfl)) | refine o1 ?_ | refine o2 ?_ | refine k1 ?_ | refine k2 ?_ | refine k4 ?_ | refine za ?_ | refine zc (by omega) (by omega) ?_ | fail)
       refine zB (fun k : Nat => [(1, .ptr 0 4 0 0), (2, .ptr 1 4 0 0), (5, .ptr 2 4 0 0), (29, .pv (.sl 1 (S.map q9))), (30, zg .i64 S.length), (31, zg .i64 k)]) (fun k => hS0 ⟨MC, MP, CC, MR⟩ (.sl 4 (MP.map Pair.row)) (.sl 4 (CC.map Count.row)) (MR + 1) none none (zfK MR (S.take k) MC)) (fun k => k ≤ S.length) (fun k => S.length - k) 0 (Nat.zero_le _) ?_ ?_
       · exact zco (by repeat (first | exact zdH | refine zci rfl ?_))
       intro k hk
       rcases Nat.lt_or_ge k S.length with hlt | hge
       · obtain ⟨s, hs⟩ := qj hlt
         have hsS := List.mem_of_getElem? hs
         obtain ⟨x0, st0, hs0⟩ := hne s hsS
         have hsl := hSs s hsS
         have hto : S.take (k + 1) = S.take k ++ [s] := by rw [List.take_add_one, hs]; rfl
         have hL1 : (zfK MR (S.take k) MC).map zhk = MC.map zhk := zf6
         have hL2 := zla hL1 hMC
         have hL3 := zjg (R := MR) (S := S.take k) hch
         have hL4 : (zfK MR (S.take k) MC).length ≤ 24 := by rw [zeS]; exact hML
         have hnx : zfK MR (S.take (k + 1)) MC = zlN MR s (zfK MR (S.take k) MC) := by rw [hto, zkD]
         generalize zfK MR (S.take k) MC = L at *
         obtain ⟨A, l, B, rfl, hA, hl⟩ := hcls hsS hL1
         have hic := zpH s (A ++ l :: B) hsl (fun l h => by have := hL2 l h; omega) (by omega)
         rw [idx_cls hA hl] at hic
         rw [zpV hA hl] at hnx
         have hlp : 0 < l.length := by
          cases l with
          | nil => simp at hl
          | cons a t => simp
         have hcv := fun a0 a1 a2 a4 a5 a6 a7 a8 a9 ty => @conv_S0p A B l a0 a1 a2 a4 a5 a6 a7 a8 a9 ty hlp
         have hAn : A.length < zhV A B := by unfold zhV; omega
         have hfa := far_a (m := ⟨MC, MP, CC, MR⟩) (P := .sl 4 (MP.map Pair.row)) (C := .sl 4 (CC.map Count.row)) (R := MR + 1) (A := A) (l := l) (B := B)
         have hfb := fun ty z fz p => far_b (ty := ty) (z := z) (fz := fz) (p := p) (m := ⟨MC, MP, CC, MR⟩) (P := .sl 4 (MP.map Pair.row)) (C := .sl 4 (CC.map Count.row)) (R := MR + 1) (A := A) (l := l) (B := B)
         rw [zo0 hlp]
         dsimp only [hS0p] at hfa hfb ⊢
         generalize hT : zZ (shF 10) 0 (A ++ l :: B) = T at *
         refine zq ?_
         repeat' (first | ((change zP T _; refine zq ?_)) | (refine zj (k := k) (zf hs) (by omega) ?_) | (refine ⟨_, zgu, ?_⟩) | ((show zU _ _ _ _ (.region 10 _ _) _ _ _; refine zN (k := 4) (qZ.room (Nat.zero_le _) (Nat.le_of_ble_eq_true rfl) (fun _ _ h => h) (show zbk 4 1 _ = true by simp [zbk, zab, far, zg, zo]) hfa) ?_)) | ((show zU _ _ _ _ (.region 11 _ _) _ _ _; refine zN (k := 5) (qZ.room (Nat.zero_le _) (Nat.le_of_ble_eq_true rfl) (fun _ _ h => h) (show zbk 5 1 _ = true by simp [zbk, zab, far, zg, zo]) (hfb _ _ _ _)) ?_)) | ((change zp _ _ _ _ _; refine zC (conv_two (hcv _ _ _ _ _ _ _ _ _ _).1 rfl) (ok_two (hcv _ _ _ _ _ _ _ _ _ _).2 (by repeat' (first | exact True.intro | refine And.intro ?_ ?_))) zW.refl hic rfl ?_)) | refine o1 ?_ | refine o2 ?_ | refine k1 ?_ | refine k2 ?_ | refine k3 ?_ | refine k4 ?_ | refine k6 ?_ | refine And.intro ?_ ?_ | (intro h; first | exact Bool.noConfusion h | exact nz _ h | exact nl h | (simp at h; done) | (simp at h; first | (exfalso; omega) | skip) | skip) | exact (by kernel_rfl : zn _ _ = true) | refine zL ?_ | refine qp _ (by first | rfl | assumption) (by first | assumption | omega) ?_ | fail)
         refine zB (fun i : Nat => [(1, .ptr 0 4 0 0), (2, .ptr 1 4 0 0), (5, .ptr 2 4 0 0), (29, .pv (.sl 1 (S.map q9))), (30, zg .i64 S.length), (31, zg .i64 k), (7, .ptr 4 1 0 0), (8, .ptr 5 1 0 0), (9, zg .i64 A.length), (45, zg .i64 l.length), (46, zg .i64 i)]) (fun i => hS1 ⟨MC, MP, CC, MR⟩ (.sl 4 (MP.map Pair.row)) (.sl 4 (CC.map Count.row)) (MR + 1) (bxS s) bxK A (lI (zdW MR s) l i) B) (fun i => i ≤ l.length) (fun i => l.length - i) 0 (Nat.zero_le _) ?_ ?_
         · subst hT
           exact zo4 (x4 := bxS s) (x5 := bxK) zfc zfd hlp (fun d rest => by repeat' (first | exact trivial | exact rfl | refine And.intro ?_ ?_))
         intro i hi
         rcases Nat.lt_or_ge i l.length with hlt2 | hge2
         · obtain ⟨o, ho⟩ := qj hlt2
           have hoi := lI_at (f := zdW MR s) ho
           have hsu := zoR (f := zdW MR s) ho
           have hll := lI_len (f := zdW MR s) (l := l) (i := i) hi
           have hoc := hL3 l (by simp) o (List.mem_of_getElem? ho)
           have hl24 := hL2 l (by simp)
           have hSk : (S.take k).length ≤ 100000 := by rw [List.length_take]; omega
           generalize lI (zdW MR s) l i = li at *
           have hfar := far_S2 (m := ⟨MC, MP, CC, MR⟩) (P := .sl 4 (MP.map Pair.row)) (C := .sl 4 (CC.map Count.row)) (R := MR + 1) (x4 := bxS s) (x5 := bxK) (A := A) (l := li) (B := B) (i := i) (o := o) (q := nT A + i) (s := s) (.inr rfl) (.inr rfl)
           have hrow := zdD (g := gX (nT A + i) 7) (j := nT A) hoi
           rw [gX_at] at hrow
           have hrx := zo5 (A := A) (x := 7) hoi
           refine zq ?_
           repeat' (first | ((show zU _ _ _ _ (.seq (.region 15 _ _) _) _ _ _; refine zbR ?_)) | refine o1 ?_ | refine o2 ?_ | refine k1 ?_ | refine k2 ?_ | refine k3 ?_ | refine k4 ?_ | refine k6 ?_ | refine And.intro ?_ ?_ | (intro h; first | exact Bool.noConfusion h | exact nz _ h | exact nl h | (simp at h; done) | (simp at h; first | (exfalso; omega) | skip) | skip) | fail)
           all_goals try (exfalso; omega)
           refine ⟨?_⟩
           refine qh (zmB (G := [(1, .ptr 0 4 0 0), (2, .ptr 1 4 0 0), (5, .ptr 2 4 0 0), (29, .pv (.sl 1 (S.map q9))), (30, zg .i64 S.length), (31, zg .i64 k), (7, .ptr 4 1 0 0), (8, .ptr 5 1 0 0), (9, zg .i64 A.length), (45, zg .i64 l.length), (46, zg .i64 i)]) zfc zfd hoi (fun d rest => by repeat' (first | exact trivial | exact rfl | refine And.intro ?_ ?_))) ?_
           dsimp only [hS2] at hfar ⊢
           have hcal := fun (H : zt) => @conv_in o H s
           obtain ⟨pl, cs⟩ := o
           generalize qa (gX (nT A + i) 7) (nT A) li = rows at *
           generalize hM : mid A ((zam li).set i none) none B li.length = T2 at *
           have hs00 : (s.map zr)[0]? = some (zr x0) := by rw [hs0]; rfl
           have hin := c_in s ⟨pl, cs⟩ hsl
           have hh : inS s ⟨pl, cs⟩ = true → ¬ pl.room = x0 → zdW MR s ⟨pl, cs⟩ = ⟨pl, cs ++ [⟨MR, zhx⟩]⟩ := fun h1 h2 => zm9 hs0 h1 h2
           have hn1 : pl.room = x0 → zdW MR s ⟨pl, cs⟩ = ⟨pl, cs⟩ := fun h2 => zkC hs0 h2
           have hn2 : inS s ⟨pl, cs⟩ = false → zdW MR s ⟨pl, cs⟩ = ⟨pl, cs⟩ := zm8
           have hcl : cs.length ≤ 200000 := by have : cs.length ≤ 56 + _ := hoc; omega
           rcases cs with _ | ⟨c0, C0⟩
           · repeat' (first | ((change zP T2 _; refine zq ?_)) | (refine zj hs00 rfl ?_) | (refine ⟨_, zgu, ?_⟩) | (refine ⟨_, hrow, ?_⟩) | ((show zU _ _ _ _ (.region 18 _ _) _ _ _; refine xy (k := 8) (qZ.room (Nat.zero_le _) (Nat.le_of_ble_eq_true rfl) (fun _ _ h => h) (show zbk 8 2 _ = true by simp [zbk, zab, far, zg, zo, chC]) hfar) ?_)) | (refine zi (rows.set i (zdU (.ms 9 2 0 1) pl)) rfl ?_) | ((change zI _ _ _ _ _; refine zF (hcal _ rfl rfl).1 (hcal _ rfl rfl).2 zW.refl hin rfl ?_)) | refine o1 ?_ | refine o2 ?_ | refine k1 ?_ | refine k2 ?_ | refine k3 ?_ | refine k6 ?_ | refine And.intro ?_ ?_ | refine o3 ?_ | refine o4 ?_ | (intro h; first | exact Bool.noConfusion h | exact nz _ h | exact nl h | (simp at h; done) | (simp at h; first | (exfalso; omega) | skip) | skip) | (refine (?_ : z8 _ = zb _); rfl) | exact Nat.le_of_ble_eq_true rfl | exact (by kernel_rfl : zn _ _ = true) | refine zL ?_ | refine zc (by omega) (by omega) ?_ | refine zi _ (qb rfl) (zi 1 rfl ?_) | refine qp _ (by first | rfl | assumption) (by first | assumption | omega) ?_ | fail)
             all_goals try (focus
              have hb : zdW MR s _ = _ := (by first | exact hn2 (by assumption) | exact hn1 (by assumption))
              rw [hb] at hsu
              subst hM
              refine ⟨i + 1, hlt2, by omega, ?_⟩
              refine zbJ (x := 7) ⟨by decide, by decide⟩ zfc zfd hoi rfl hrx (by first | exact .inl rfl | exact .inr rfl) hsu (fun d rest => ?_)
              repeat' (first | exact trivial | exact rfl | refine And.intro ?_ ?_))
             have hb := hh (by assumption) (by assumption)
             rw [hb] at hsu
             subst hM
             refine ⟨i + 1, hlt2, by omega, ?_⟩
             refine zbJ (x := 9) (o' := ⟨pl, ([] : List Charge) ++ [⟨MR, zhx⟩]⟩) ⟨by decide, by decide⟩ zfc zfd hoi rfl ?_ (.inr rfl) hsu (fun d rest => ?_)
             · rw [hrx, List.set_set]; simp [chC]
             · repeat' (first | exact trivial | exact rfl | refine And.intro ?_ ?_)
           · simp only [List.length_cons] at hcl
             repeat' (first | ((change zP T2 _; refine zq ?_)) | (refine zj hs00 rfl ?_) | (refine ⟨_, zgu, ?_⟩) | (refine ⟨_, hrow, ?_⟩) | ((show zU _ _ _ _ (.region 18 _ _) _ _ _; refine xy (k := 8) (qZ.room (Nat.zero_le _) (Nat.le_of_ble_eq_true rfl) (fun _ _ h => h) (show zbk 8 2 _ = true by simp [zbk, zab, far, zg, zo, chC]) hfar) ?_)) | (refine zi (rows.set i (zdU (.ms 9 2 0 (C0.length + 2)) pl)) rfl ?_) | (refine zi _ (qK (f := Charge.row) (l := c0 :: C0) (y := ⟨MR, zhx⟩) rfl) (zi (C0.length + 2) (by simp [zb]) ?_)) | ((show zb _ * _ ≤ _; simp [zb]; omega)) | ((show zb _ ≤ _; simp [zb]; omega)) | ((change zI _ _ _ _ _; refine zF (hcal _ rfl rfl).1 (hcal _ rfl rfl).2 zW.refl hin rfl ?_)) | refine o1 ?_ | refine o2 ?_ | refine k1 ?_ | refine k2 ?_ | refine k3 ?_ | refine k6 ?_ | refine And.intro ?_ ?_ | refine o3 ?_ | refine o4 ?_ | (intro h; first | exact Bool.noConfusion h | exact nz _ h | exact nl h | (simp at h; done) | (simp at h; first | (exfalso; omega) | skip) | skip) | (refine (?_ : z8 _ = zb _); rfl) | exact Nat.le_of_ble_eq_true rfl | exact (by kernel_rfl : zn _ _ = true) | refine zL ?_ | refine zc (by omega) (by omega) ?_ | (refine (?_ : _ = zb _); simp [zb] <;> omega) | refine qp _ (by first | rfl | assumption) (by first | assumption | omega) ?_ | fail)
             all_goals try (focus
              have hb : zdW MR s _ = _ := (by first | exact hn2 (by assumption) | exact hn1 (by assumption))
              rw [hb] at hsu
              subst hM
              refine ⟨i + 1, hlt2, by omega, ?_⟩
              refine zbJ (x := 7) ⟨by decide, by decide⟩ zfc zfd hoi rfl hrx (by first | exact .inl rfl | exact .inr rfl) hsu (fun d rest => ?_)
              repeat' (first | exact trivial | exact rfl | refine And.intro ?_ ?_))
             have hb := hh (by assumption) (by assumption)
             rw [hb] at hsu
             subst hM
             refine ⟨i + 1, hlt2, by omega, ?_⟩
             refine zbJ (x := 9) (o' := ⟨pl, c0 :: C0 ++ [⟨MR, zhx⟩]⟩) ⟨by decide, by decide⟩ zfc zfd hoi rfl ?_ (.inr rfl) hsu (fun d rest => ?_)
             · rw [hrx, List.set_set]; simp [chC]
             · repeat' (first | exact trivial | exact rfl | refine And.intro ?_ ?_)
         · obtain rfl : i = l.length := by omega
           rw [lI_all]
           have hll : (l.map (zdW MR s)).length = l.length := List.length_map _
           refine zq ?_
           repeat' (first | refine o1 ?_ | refine o2 ?_ | refine k1 ?_ | refine k2 ?_ | refine k3 ?_ | refine k8 ?_ | refine And.intro ?_ ?_ | (intro h; first | exact Bool.noConfusion h | exact nz _ h | exact nl h | (simp at h; done) | (simp at h; first | (exfalso; omega) | skip) | skip) | refine zc (by omega) (by omega) ?_ | fail)
           all_goals try (exfalso; omega)
           refine ⟨k + 1, hlt, by omega, ?_⟩
           rw [hnx]
           refine zmC (x4 := bxS s) (x5 := bxK) (by omega) (fun d rest => ?_)
           repeat' (first | exact trivial | exact rfl | refine And.intro ?_ ?_)
       · obtain rfl : k = S.length := by omega
         have hlt' : S.take S.length = S := List.take_length
         rw [hlt']
         generalize zfK MR S MC = L
         have hcv := fun a0 a1 a2 a4 a5 a6 a7 a8 a9 ty => @zlv L a0 a1 a2 a4 a5 a6 a7 a8 a9 ty
         have hfin : ∀ (x1 : Option AObj) (y : AV), y = slC 3 1 (qy (shF 10) 0 L) → zx 0 (.tup [.agg [y, .pv (.sl 4 (MP.map Pair.row)), .pv (.sl 4 (CC.map Count.row)), .pv (ei (MR + 1))], zg .i64 0]) (zdX ⟨MC, MP, CC, MR⟩ :: x1 :: zdx y (.pv (.sl 4 (MP.map Pair.row))) (.pv (.sl 4 (CC.map Count.row))) (MR + 1) :: obM 51 1 (qy (shF 10) 0 L) :: none :: none :: none :: none :: none :: none :: zZ (shF 10) 0 L) (fun r H' => H' = [] ∧ Leq r (.tup [ag (⟨L, MP, CC, MR + 1⟩ : Model).cells, zg .i64 0])) := fun x1 y hy => by
          subst hy
          have h1 := (hcv (zdX ⟨MC, MP, CC, MR⟩) x1 (zdx (slC 3 1 (qy (shF 10) 0 L)) (.pv (.sl 4 (MP.map Pair.row))) (.pv (.sl 4 (CC.map Count.row))) (MR + 1)) none none none none none none 51)
          refine zd (r0 := .tup [ag (⟨L, MP, CC, MR + 1⟩ : Model).cells, zg .i64 0]) ?_ ?_ ⟨ALe.refl⟩
          · simp only [conv, zdt, zav, h1.1, qv]
            rfl
          · refine ⟨?_, trivial⟩
            show za2 (okC _ 5) [slC 3 1 (qy (shF 10) 0 L), _, _, _]
            rw [zeT fun p => trivial]
            exact ⟨h1.2, trivial⟩
         clear hcv
         rcases L with _ | ⟨l0, L0⟩
         all_goals
          refine zq ?_
          repeat' (first | (refine zbs ?_) | ((change zP (zZ _ _ _) _; refine zq ?_)) | ((change zx _ _ _ _; refine hfin _ _ rfl)) | refine o1 ?_ | refine o2 ?_ | refine k1 ?_ | refine k2 ?_ | refine k3 ?_ | refine k7 ?_ | refine k8 ?_ | refine And.intro ?_ ?_ | (intro h; first | exact Bool.noConfusion h | exact nz _ h | exact nl h | (simp at h; done) | (simp at h; first | (exfalso; omega) | skip) | skip) | fail)
          all_goals first
           | (exfalso; omega)
 · have hbv : xJ m = (zeQ, qx m) := by unfold xJ; rw [if_neg hok]
   rw [hbv]
   refine zh tok mixed 87 rfl (fn := Tryz.f22) (c := Tryz.f22.body.getD .skip) (by kernel_rfl) (by kernel_rfl) (by kernel_rfl) rfl 0 rfl ?_
   repeat' (first | refine o1 ?_ | refine o2 ?_ | refine k1 ?_ | refine k2 ?_ | refine k3 ?_ | refine k7 ?_ | refine And.intro ?_ ?_ | (intro h; first | exact Bool.noConfusion h | exact nz _ h | exact nl h | (simp at h; done) | (simp at h; first | (exfalso; omega) | skip) | skip) | exact (by kernel_rfl : zn _ _ = true) | (change zp _ _ _ _ _; refine zC rfl (by repeat' (first | trivial | refine And.intro ?_ ?_ | (show 0 + _ ≤ List.length _; simp))) zW.refl (hv) rfl ?_) | fail)
   all_goals first
    | (exfalso; omega)
    | (change zx _ _ _ _; refine zd rfl (by repeat' (first | exact True.intro | refine And.intro ?_ ?_)) ?_; exact zeC)
theorem c_break (m : Model) (hl : Laid m) : zH Tryz.prog 22 [ag m.cells] (fun r => r = .tup [ag (xJ m).1.cells, zg .i64 (xJ m).2]) := (c_break0 m hl).weak fun r k => ⟨_, k.le, rfl⟩
end Go.Proofs.YtihpjcmloecaaaaGreat.Cw
namespace Go.Proofs.YtihpjcmloecaaaaGreat.Cw
open Go Go.Cw Go.Proofs
set_option linter.unusedVariables false
section
variable {E : List (Int × Int)} {g : Int → Int}
end
structure CanI (S : List (List Int)) (E : List (Int × Int)) : Prop where
 keys : E.Pairwise fun e f => e.1 ≠ f.1
 vals : E.Pairwise fun e f => e.2 ≠ f.2
 same : ∀ e ∈ E, ∃ s ∈ S, e.1 ∈ s ∧ e.2 ∈ s
section
variable {m : Model} {R : List Int} {S : List (List Int)} {E : List (Int × Int)} {s : List Int} {r : Int}
end
end Go.Proofs.YtihpjcmloecaaaaGreat.Cw
namespace Go.Proofs.YtihpjcmloecaaaaGreat.Cw
open Go Go.Cw Go.Proofs
set_option linter.unusedVariables false
def rmAt (m : Model) (plan : List Int) (j : Nat) : Int := match plan[j]?, m.classes[j]? with
 | some o, some l => if o < 0 then -1 else match l[o.toNat]? with
   | some q => q.place.room
   | none => -1
 | _, _ => -1
section
variable {m : Model} {plan : List Int} {R : List Int} {S : List (List Int)}
noncomputable def canL (m : Model) (plan : List Int) (S : List (List Int)) : List Int := (zf5 m plan S plan.length).1
def plI (s : List Int) (t : Int) : Int := if t ∈ s then ((s.idxOf t : Nat) : Int) else -1
def toA (E : List (Int × Int)) (s : List Int) : List Int := s.map fun x => match toF E x with
 | some t => plI s t
 | none => -1
def tkA (E : List (Int × Int)) (s : List Int) : List Bool := s.map (zbq E)
noncomputable def outR (m : Model) (plan : List Int) (S : List (List Int)) (k c : Nat) : List Int := (List.range plan.length).map fun j =>
 if pB ((∃ s ∈ S.take k, rmAt m plan j ∈ s) ∨ (j < c ∧ ∃ s, S[k]? = some s ∧ rmAt m plan j ∈ s)) then (canL m plan S).getD j 0 else plan.getD j 0
end
end Go.Proofs.YtihpjcmloecaaaaGreat.Cw
