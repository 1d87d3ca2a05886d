/-
  Part 6 of the proof (SYJ, SYK, SYL, SYM, SYN, M8, SW2, SW3, SC1, SB6, SB5, SB7, SB8, SB9, SBA, SC2, SC3): what later parts use. No conditions.
-/
import Derived.Test.YtihpjcmloecaaaaGreatMK5
namespace Go.Proofs.YtihpjcmloecaaaaGreat.Cw
open Go Go.Cw Go.Proofs
set_option linter.unusedVariables false
set_option maxRecDepth 100000
theorem zmv {l : List Opt} {i j : Nat} {r s : Int} (h : zaW l i r = some j) : zaW l j s = zaW l i s := by
 obtain ⟨o, ho⟩ : ∃ o, l[i]? = some o := by
  cases e : l[i]? with
  | some o => exact ⟨o, rfl⟩
  | none => unfold zaW at h; rw [e] at h; cases h
 have hj := zmu h
 obtain ⟨q, hq⟩ := qd hj
 unfold zaW at h ⊢
 rw [ho] at h
 rw [ho, hq]
 dsimp only at h ⊢
 obtain ⟨o1, k1, k2⟩ := zdB.1 (zbZ.1 (List.mem_of_getElem? h)).2
 rw [hq] at k1; cases k1
 have h2 := zcq (zaD hq rfl) hj
 rw [k2] at h2 ⊢
 have hnd := zgl (l := l) (p := qM o.place r) (n := l.length)
 have hK : (qe l (qM o.place r) j).length = (qe l o.place i).length := by
  obtain ⟨b1, e1⟩ := List.getElem?_eq_some_iff.1 h
  obtain ⟨b2, e2⟩ := List.getElem?_eq_some_iff.1 h2
  rcases Nat.lt_trichotomy (qe l o.place i).length (qe l (qM o.place r) j).length with h | h | h
  · exact absurd (e1.trans e2.symm) (List.pairwise_iff_getElem.1 hnd _ _ b1 b2 h)
  · exact h.symm
  · exact absurd (e2.trans e1.symm) (List.pairwise_iff_getElem.1 hnd _ _ b2 b1 h)
 rw [hK]; rfl
theorem zmt {l : List Opt} {i j : Nat} {r : Int} {q : Opt} (h : zaW l i r = some j) (hq : l[j]? = some q) : q.place.room = r := by
 unfold zaW at h
 split at h
 · obtain ⟨o1, k1, k2⟩ := zdB.1 (zbZ.1 (List.mem_of_getElem? h)).2
   rw [hq] at k1; cases k1
   rw [k2]; rfl
 · cases h
theorem zpa {x a b c : Int} (h1 : a ≠ b) (h2 : a ≠ c) (h3 : b ≠ c) : zfz (zfz (zfz x a c) b c) a c = zfz x a b := by
 unfold zfz
 grind
theorem ziI {l : List Opt} {a b c : Int} (h1 : a ≠ b) (h2 : a ≠ c) (h3 : b ≠ c) (hac : zcT l a c) (hbc : zcT l b c) {i : Nat} (hi : i < l.length) :
 okO l a b i ∧ imN l a b i = imN l a c (imN l b c (imN l a c i)) := by
 obtain ⟨i1, o, q1, e1, e2, e3, e4⟩ := hac i hi
 have hi1 := (List.getElem?_eq_some_iff.1 e3).1
 obtain ⟨i2, o', q2, f1, f2, f3, f4⟩ := hbc i1 hi1
 rw [e3] at f2; cases f2
 have hi2 := (List.getElem?_eq_some_iff.1 f3).1
 obtain ⟨i3, o', q3, g1, g2, g3, g4⟩ := hac i2 hi2
 rw [f3] at g2; cases g2
 have n1 : imN l a c i = i1 := by unfold imN; rw [e1]; rfl
 have n2 : imN l b c i1 = i2 := by unfold imN; rw [f1]; rfl
 have n3 : imN l a c i2 = i3 := by unfold imN; rw [g1]; rfl
 rw [zbJ e2 rfl] at e1
 rw [zbJ e3 rfl] at f1
 rw [zbJ f3 rfl] at g1
 have r1 := zmt e1 e3
 have r2 := zmt f1 f3
 rw [zmv f1, zmv e1, r2, r1, zpa h1 h2 h3] at g1
 have hs : zcZ l a b i = some i3 := by rw [zbJ e2 rfl]; exact g1
 refine ⟨⟨i3, o, q3, hs, e2, g3, e4.trans (f4.trans g4)⟩, ?_⟩
 rw [n1, n2, n3]
 unfold imN; rw [hs]; rfl
section
variable {m : Model} {a b c : Int}
theorem zox {g : Load → Int} {x y : Count} (h1 : x.rule = y.rule) (h2 : x.most = y.most) (h3 : x.penalty = y.penalty) (h4 : x.loads.Perm y.loads) : zas g x = zas g y := by
 unfold zas
 rw [h1, h2, h3, (zlZ zjy).2 (h4.map (zcu g))]
theorem zoy {g : Load → Int} (x : Count) : zas g (zas Load.opt x) = zas g x := by
 refine zox rfl rfl rfl ?_
 have : (zcu Load.opt) = id := rfl
 show (srt ldC (x.loads.map (zcu Load.opt))).Perm _
 rw [this, List.map_id]
 exact za3 _
theorem zlq (h1 : a ≠ b) (h2 : a ≠ c) (h3 : b ≠ c) (hac : zdu m a c) (hbc : zdu m b c) {x : Load} (hx : xQ m x.cls x.opt) :
 zcu (zM m a b) x = zcu (zM m a c) (zcu (zM m b c) (zcu (zM m a c) x)) := by
 obtain ⟨k1, k2, l, k3, k4⟩ := hx
 have hl := List.mem_of_getElem? k3
 have e : ∀ (d f : Int) (y : Load), y.cls = x.cls → zM m d f y = (imN l d f y.opt.toNat : Int) := fun d f y hy => by unfold zM; rw [hy, k3]
 have hc := (ziI h1 h2 h3 (hac l hl) (hbc l hl) (i := x.opt.toNat) (by omega)).2
 show (⟨x.cls, zM m a b x, x.weight⟩ : Load) = ⟨x.cls, zM m a c (zcu (zM m b c) (zcu (zM m a c) x)), x.weight⟩
 have e1 := e a b x rfl
 have e2 := e a c (zcu (zM m b c) (zcu (zM m a c) x)) rfl
 have e3 := e b c (zcu (zM m a c) x) rfl
 have e4 := e a c x rfl
 have o1 : (zcu (zM m a c) x).opt = (imN l a c x.opt.toNat : Int) := e4
 have o2 : (zcu (zM m b c) (zcu (zM m a c) x)).opt = (imN l b c (imN l a c x.opt.toNat) : Int) := by
  show zM m b c (zcu (zM m a c) x) = _
  rw [e3, o1]; rfl
 rw [e1, e2, o2, hc]; rfl
theorem zoz (h1 : a ≠ b) (h2 : a ≠ c) (h3 : b ≠ c) (hac : zdu m a c) (hbc : zdu m b c) {x : Count} (hx : ∀ l ∈ x.loads, xQ m l.cls l.opt) :
 zas (zM m a b) x = zas (zM m a c) (zas (zM m b c) (zas (zM m a c) x)) := by
 have e : x.loads.map (zcu (zM m a b)) = ((x.loads.map (zcu (zM m a c))).map (zcu (zM m b c))).map (zcu (zM m a c)) := by
  rw [List.map_map, List.map_map]
  exact List.map_congr_left fun y hy => zlq h1 h2 h3 hac hbc (hx y hy)
 show (⟨x.rule, _, x.most, x.penalty⟩ : Count) = ⟨x.rule, _, x.most, x.penalty⟩
 congr 1
 rw [zlZ zjy, e]
 refine List.Perm.map _ ?_
 show (List.map (zcu (zM m b c)) _).Perm (srt ldC (List.map (zcu (zM m b c)) (srt ldC _)))
 exact ((za3 _).symm.map _).trans (za3 _).symm
theorem zhD (hz : qD m) (hg : zdM m) (h1 : a ≠ b) (h2 : a ≠ c) (h3 : b ≠ c) (hac : zbt m a c) (hbc : zbt m b c) : zbt m a b := by
 obtain ⟨i1, e1, c1⟩ := hac
 obtain ⟨i2, e2, c2⟩ := hbc
 refine ⟨fun l hl i hi => (ziI h1 h2 h3 (i1 l hl) (i2 l hl) hi).1, fun p hp x y hx hy i hi k hk => ?_, ?_⟩
 · have hxm := List.mem_of_getElem? hx
   have hym := List.mem_of_getElem? hy
   rw [(ziI h1 h2 h3 (i1 x hxm) (i2 x hxm) hi).2, (ziI h1 h2 h3 (i1 y hym) (i2 y hym) hk).2]
   have a1 := (zdd (i1 x hxm i hi)).2
   have a2 := (zdd (i1 y hym k hk)).2
   have b1 := (zdd (i2 x hxm _ a1)).2
   have b2 := (zdd (i2 y hym _ a2)).2
   exact (e1 p hp x y hx hy i hi k hk).trans ((e2 p hp x y hx hy _ a1 _ a2).trans (e1 p hp x y hx hy _ b1 _ b2))
 · rw [zly] at c1 c2 ⊢
   have hm : m.counts.map (zas (zM m a b)) = ((m.counts.map (zas (zM m a c))).map (zas (zM m b c))).map (zas (zM m a c)) := by
    rw [List.map_map, List.map_map]
    exact List.map_congr_left fun x hx => zoz h1 h2 h3 i1 i2 fun l hl => (zce hg hx hl).1
   have hN : ∀ g, (m.counts.map (zas Load.opt)).map (zas g) = m.counts.map (zas g) := fun g => by
    rw [List.map_map]
    exact List.map_congr_left fun x _ => zoy x
   rw [hm]
   have p1 := (c1.map (zas (zM m b c)))
   rw [hN] at p1
   have p2 := (p1.trans c2).map (zas (zM m a c))
   rw [hN] at p2
   exact p2.trans c1
end
end Go.Proofs.YtihpjcmloecaaaaGreat.Cw
namespace Go.Proofs.YtihpjcmloecaaaaGreat.Cw
open Go Go.Cw Go.Proofs
set_option linter.unusedVariables false
set_option maxRecDepth 100000
set_option maxHeartbeats 8000000
noncomputable def swB (m : Model) (x b : Int) : Bool := pB (zbt m x b)
noncomputable def zai (m : Model) : Nat → List Int → List (List Int)
 | 0, _ => []
 | _ + 1, [] => []
 | n + 1, x :: l => (if l.filter (swB m x) = [] then [] else [x :: l.filter (swB m x)]) ++ zai m n (l.filter fun b => !swB m x b)
noncomputable def xf (m : Model) : List (List Int) := if qo m = 0 then zai m (zQ m).length (zQ m) else []
theorem zeq {m : Model} : ∀ {n : Nat}, zai m n [] = []
 | 0 => rfl
 | _ + 1 => rfl
theorem zgj {m : Model} : ∀ {n k : Nat} {l : List Int}, l.length ≤ n → l.length ≤ k → zai m n l = zai m k l
 | n, k, [], _, _ => by rw [zeq, zeq]
 | 0, _, x :: l, h, _ => by simp at h
 | _, 0, x :: l, _, h => by simp at h
 | n + 1, k + 1, x :: l, h1, h2 => by
   unfold zai
   have := List.length_filter_le (fun b => !swB m x b) l
   simp only [List.length_cons] at h1 h2
   rw [zgj (n := n) (k := k) (by omega) (by omega)]
theorem zmH {α : Type} {p : α → Bool} : ∀ {l : List α}, (l.filter p).length + (l.filter fun x => !p x).length = l.length
 | [] => rfl
 | x :: l => by
   have ih := zmH (p := p) (l := l)
   cases h : p x <;> simp [h] <;> omega
def qV (l : List Int) : List PV := [.sl 1 (l.map zp)]
def slS (x : Int) (F : List Int) : AV := match F with
 | [] => .clip 1 [zp x]
 | _ :: _ => .ms 2 1 0 (F.length + 1)
def obS (x : Int) (F : List Int) : Option AObj := match F with
 | [] => none
 | _ :: _ => some ⟨3, 1, false, .p ((x :: F).map zp)⟩
theorem clip_le {z : Nat} {xs : List (List PV)} : ALe (.clip z xs) (.pv (.sl z xs)) := fun I β w v h => by
 cases h with
 | clip h => exact .pv h
theorem c_Rooms0 (m : Model) (hl : Laid m) : zF Tryz.prog 16 [ag m.cells] (fun r => Leq r (.pv (.sl 1 ((xf m).map qV)))) := by
 have hv := zjd m hl
 by_cases hok : qo m = 0
 · have hz := qH hok
   have hg := zae hok
   have hnu := zpD m hz
   have hVl := zaK hz
   have e : xf m = zai m (zQ m).length (zQ m) := if_pos hok
   rw [e]
   rw [hok] at hv
   refine zh tok mixed 56 rfl (fn := Tryz.f16) (c := Tryz.f16.body.getD .skip) (by kernel_rfl) (by kernel_rfl) (by kernel_rfl) rfl 0 rfl ?_
   repeat' (first | ((change zn _ _ _ _ _; refine qn rfl (by repeat' (first | trivial | refine And.intro ?_ ?_ | (show 0 + _ ≤ List.length _; simp))) zT.refl hnu ?_; rintro _ rfl)) | refine o1 ?_ | refine o2 ?_ | refine k1 ?_ | refine k2 ?_ | refine k3 ?_ | refine k4 ?_ | refine k6 ?_ | refine And.intro ?_ ?_ | (intro h; first | exact Bool.noConfusion h | exact nz _ h | exact nl h | (simp at h; done) | (simp at h; first | (exfalso; omega) | skip) | skip) | (change zn _ _ _ _ _; refine zA rfl (by repeat' (first | trivial | refine And.intro ?_ ?_ | (show 0 + _ ≤ List.length _; simp))) zT.refl (hv) rfl ?_) | fail)
   refine zy (fun x : List Int × List (List Int) => [(1, .ptr 0 4 0 0), (3, slP 1 1 (x.2.map qV)), (4, .pv (.sl 1 (x.1.map zp)))])
    (fun x => [some ⟨29, 4, false, .box (pvs m.cells)⟩, obP 22 1 (x.2.map qV)])
    (fun x => x.1.length ≤ 576 ∧ x.2.length + x.1.length ≤ 576 ∧ x.2 ++ zai m x.1.length x.1 = zai m (zQ m).length (zQ m)) (fun x => x.1.length) (zQ m, []) ⟨hVl, by simpa using hVl, rfl⟩ ?_ ?_
   · exact zG [0, 1] rfl rfl (by repeat' (first | exact trivial | exact rfl | refine And.intro ?_ ?_)) (by repeat' (first | exact trivial | exact rfl | refine And.intro ?_ ?_))
   rintro ⟨L, OUT⟩ ⟨h1, h2, h3⟩
   dsimp only at h1 h2 h3 ⊢
   rcases L with _ | ⟨x, l⟩
   · rw [zeq, List.append_nil] at h3
     rw [← h3]
     repeat' (first | (refine xE ?_) | (refine zY ?_) | refine o1 ?_ | refine o2 ?_ | refine k1 ?_ | refine k2 ?_ | refine k3 ?_ | refine k7 ?_ | refine k8 ?_ | refine And.intro ?_ ?_ | (intro h; first | exact Bool.noConfusion h | exact nz _ h | exact nl h | (simp at h; done) | (simp at h; first | (exfalso; omega) | skip) | skip) | refine za ?_ | fail)
     exact zon rfl ⟨ALe.refl⟩ ziV
   · have hsl : ∀ n, (l.filter fun b => !swB m x b).length ≤ n → zai m n (l.filter fun b => !swB m x b) = zai m (l.filter fun b => !swB m x b).length (l.filter fun b => !swB m x b) := fun n hn => zgj hn (Nat.le_refl _)
     have hln : l.length ≤ 575 := by simpa using h1
     have hdr : List.drop 1 (List.take (List.map zp (x :: l)).length (List.map zp (x :: l))) = l.map zp := by rw [List.take_length]; rfl
     repeat' (first | (refine zY ?_) | (refine ⟨1, (by simp), rfl, rfl, ?_⟩) | (refine ⟨1, (List.map zp (x :: l)).length, rfl, rfl, (by simp), Nat.le_refl _, ?_⟩) | (refine zw (l.map zp) hdr ?_) | refine o1 ?_ | refine o2 ?_ | refine k1 ?_ | refine k2 ?_ | refine k3 ?_ | refine k4 ?_ | refine k6 ?_ | refine And.intro ?_ ?_ | (intro h; first | exact Bool.noConfusion h | exact nz _ h | exact nl h | (simp at h; done) | (simp at h; first | (exfalso; omega) | skip) | skip) | refine za ?_ | fail)
     refine zy (fun k : Nat => [(1, .ptr 0 4 0 0), (3, slP 1 1 (OUT.map qV)), (4, .pv (.sl 1 ((x :: l).map zp))), (5, slS x ((l.take k).filter (swB m x))), (6, slP 3 1 (((l.take k).filter fun b => !swB m x b).map zp)), (22, .pv (.sl 1 (l.map zp))), (23, zf .i64 l.length), (24, zf .i64 k)])
      (fun k => [some ⟨29, 4, false, .box (pvs m.cells)⟩, obP 22 1 (OUT.map qV), obS x ((l.take k).filter (swB m x)), obP 3 1 (((l.take k).filter fun b => !swB m x b).map zp)])
      (fun k => k ≤ l.length) (fun k => l.length - k) 0 (Nat.zero_le _) ?_ ?_
     · exact zG [0, 1, 2, 3] rfl rfl (by repeat' (first | exact trivial | exact rfl | refine zB rfl ?_ | refine And.intro ?_ ?_)) (by repeat' (first | exact trivial | exact rfl | exact zX rfl | refine And.intro ?_ ?_))
     intro k hk
     rcases Nat.lt_or_ge k l.length with hkl | hkg
     · obtain ⟨b, hb⟩ := qd hkl
       have hsw := zpv m x b hz hg
       have hFl : ((l.take k).filter (swB m x)).length ≤ 575 := Nat.le_trans (List.length_filter_le ..) (Nat.le_trans (List.length_take_le' ..) hln)
       have hGl : ((l.take k).filter fun b => !swB m x b).length ≤ 575 := Nat.le_trans (List.length_filter_le ..) (Nat.le_trans (List.length_take_le' ..) hln)
       have hF1 : (l.take (k + 1)).filter (swB m x) = if swB m x b then (l.take k).filter (swB m x) ++ [b] else (l.take k).filter (swB m x) := by
        rw [xN hb, List.filter_append]; by_cases h : swB m x b = true <;> simp [h]
       have hG1 : ((l.take (k + 1)).filter fun b => !swB m x b) = if swB m x b then ((l.take k).filter fun b => !swB m x b) else ((l.take k).filter fun b => !swB m x b) ++ [b] := by
        rw [xN hb, List.filter_append]; by_cases h : swB m x b = true <;> simp [h]
       generalize hFF : (l.take k).filter (swB m x) = F at *
       generalize hGG : ((l.take k).filter fun b => !swB m x b) = G at *
       by_cases hP : zbt m x b
       · have hS : swB m x b = true := zaM hP
         rw [if_pos hS] at hF1 hG1
         rw [zaM hP] at hsw
         rcases F with _ | ⟨a, F⟩
         · repeat' (first | (refine zY ?_) | (refine zi (k := k) (zg hb) rfl ?_) | (refine zi (k := 0) (r := zp x) rfl rfl ?_) | ((change zI _ _ _ _ _; refine zD rfl (by repeat' (first | trivial | refine And.intro ?_ ?_ | (show 0 + _ ≤ List.length _; simp))) zT.refl hsw rfl ?_)) | (refine zw (Rows.p ([x, b].map zp)) rfl (zw 2 rfl ?_)) | refine o1 ?_ | refine o2 ?_ | refine k1 ?_ | refine k2 ?_ | refine k3 ?_ | refine k4 ?_ | refine k6 ?_ | refine And.intro ?_ ?_ | refine o3 ?_ | refine o4 ?_ | (intro h; first | exact Bool.noConfusion h | exact nz _ h | exact nl h | (simp at h; done) | (simp at h; first | (exfalso; omega) | skip) | skip) | (refine (?_ : qt _ = zb _); rfl) | exact Nat.le_of_ble_eq_true rfl | exact (by kernel_rfl : zl _ _ = true) | refine zc (by omega) (by omega) ?_ | fail)
           refine ⟨k + 1, by omega, by omega, ?_⟩
           rw [hF1, hG1]
           exact zG [0, 1, 5, 3] rfl rfl (by repeat' (first | exact trivial | exact rfl | refine zB rfl ?_ | refine And.intro ?_ ?_)) (by repeat' (first | exact trivial | exact rfl | exact zX rfl | refine And.intro ?_ ?_))
         · repeat' (first | (refine zY ?_) | (refine zi (k := k) (zg hb) rfl ?_) | (refine zi (k := 0) (r := zp x) rfl rfl ?_) | ((change zI _ _ _ _ _; refine zD rfl (by repeat' (first | trivial | refine And.intro ?_ ?_ | (show 0 + _ ≤ List.length _; simp))) zT.refl hsw rfl ?_)) | ((show zb _ * _ ≤ _; simp [zb] at *; omega)) | ((show zb _ ≤ _; simp [zb] at *; omega)) | refine o1 ?_ | refine o2 ?_ | refine k1 ?_ | refine k2 ?_ | refine k3 ?_ | refine k4 ?_ | refine k6 ?_ | refine And.intro ?_ ?_ | refine o3 ?_ | refine o4 ?_ | (intro h; first | exact Bool.noConfusion h | exact nz _ h | exact nl h | (simp at h; done) | (simp at h; first | (exfalso; omega) | skip) | skip) | (refine (?_ : qt _ = zb _); rfl) | exact (by kernel_rfl : zl _ _ = true) | refine zc (by omega) (by omega) ?_ | (refine (?_ : _ = zb _); simp [zb] <;> omega) | refine zw _ (zbp rfl) (zw _ zcI ?_) | fail)
           refine ⟨k + 1, by omega, by omega, ?_⟩
           rw [hF1, hG1]
           exact zG [0, 1, 5, 3] rfl rfl (by repeat' (first | exact trivial | exact rfl | refine zB rfl ?_ | refine And.intro ?_ ?_)) (by repeat' (first | exact trivial | exact rfl | exact zX rfl | refine And.intro ?_ ?_))
       · have hS : swB m x b = false := zad hP
         rw [if_neg (by rw [hS]; simp)] at hF1 hG1
         rw [zad hP] at hsw
         rcases F with _ | ⟨a, F⟩
         · repeat' (first | (refine xE ?_) | (refine zY ?_) | (refine zi (k := k) (zg hb) rfl ?_) | (refine zi (k := 0) (r := zp x) rfl rfl ?_) | ((change zI _ _ _ _ _; refine zD rfl (by repeat' (first | trivial | refine And.intro ?_ ?_ | (show 0 + _ ≤ List.length _; simp))) zT.refl hsw rfl ?_)) | ((refine zbP rfl rfl rfl rfl rfl rfl rfl rfl rfl rfl rfl (by rw [List.length_map]; omega) (by rw [List.length_map]; omega) ?_)) | refine o1 ?_ | refine o2 ?_ | refine k1 ?_ | refine k2 ?_ | refine k3 ?_ | refine k4 ?_ | refine k6 ?_ | refine And.intro ?_ ?_ | refine o3 ?_ | refine o4 ?_ | (intro h; first | exact Bool.noConfusion h | exact nz _ h | exact nl h | (simp at h; done) | (simp at h; first | (exfalso; omega) | skip) | skip) | exact (by kernel_rfl : zl _ _ = true) | refine zc (by omega) (by omega) ?_ | fail)
           refine ⟨k + 1, by omega, by omega, ?_⟩
           rw [hF1, hG1, zK, qh, qi]
           exact zG [0, 1, 2, 5] rfl rfl (by repeat' (first | exact trivial | exact rfl | refine zB rfl ?_ | refine And.intro ?_ ?_)) (by repeat' (first | exact trivial | exact rfl | exact zX rfl | refine And.intro ?_ ?_))
         · repeat' (first | (refine xE ?_) | (refine zY ?_) | (refine zi (k := k) (zg hb) rfl ?_) | (refine zi (k := 0) (r := zp x) rfl rfl ?_) | ((change zI _ _ _ _ _; refine zD rfl (by repeat' (first | trivial | refine And.intro ?_ ?_ | (show 0 + _ ≤ List.length _; simp))) zT.refl hsw rfl ?_)) | ((refine zbP rfl rfl rfl rfl rfl rfl rfl rfl rfl rfl rfl (by rw [List.length_map]; omega) (by rw [List.length_map]; omega) ?_)) | refine o1 ?_ | refine o2 ?_ | refine k1 ?_ | refine k2 ?_ | refine k3 ?_ | refine k4 ?_ | refine k6 ?_ | refine And.intro ?_ ?_ | refine o3 ?_ | refine o4 ?_ | (intro h; first | exact Bool.noConfusion h | exact nz _ h | exact nl h | (simp at h; done) | (simp at h; first | (exfalso; omega) | skip) | skip) | exact (by kernel_rfl : zl _ _ = true) | refine zc (by omega) (by omega) ?_ | fail)
           refine ⟨k + 1, by omega, by omega, ?_⟩
           rw [hF1, hG1, zK, qh, qi]
           exact zG [0, 1, 2, 5] rfl rfl (by repeat' (first | exact trivial | exact rfl | refine zB rfl ?_ | refine And.intro ?_ ?_)) (by repeat' (first | exact trivial | exact rfl | exact zX rfl | refine And.intro ?_ ?_))
     · obtain rfl : k = l.length := by omega
       rw [List.take_length]
       have hsum := zmH (p := swB m x) (l := l)
       have hst : zai m (x :: l).length (x :: l) = (if l.filter (swB m x) = [] then [] else [x :: l.filter (swB m x)]) ++ zai m (l.filter fun b => !swB m x b).length (l.filter fun b => !swB m x b) := by
        rw [← hsl l.length (List.length_filter_le ..)]; rfl
       rw [hst] at h3
       simp only [List.length_cons] at h1 h2
       generalize hFF : l.filter (swB m x) = F at *
       generalize hGG : (l.filter fun b => !swB m x b) = G at *
       refine zo ?_
       rcases F with _ | ⟨a, F⟩
       · rw [if_pos rfl, List.nil_append] at h3
         refine qc (Γ' := [(1, .ptr 0 4 0 0), (3, slP 1 1 (OUT.map qV)), (5, .pv (.sl 1 [zp x])), (6, .pv (.sl 1 (G.map zp))), (22, .pv (.sl 1 (l.map zp))), (23, zf .i64 l.length), (24, zf .i64 l.length)]) (H' := [some ⟨29, 4, false, .box (pvs m.cells)⟩, obP 22 1 (OUT.map qV)]) (zC.trans (zC.weak (s := 5) rfl clip_le) (zC.sl (s := 6) (id := 3) rfl rfl fun H' hl hH => zG [0, 1] rfl rfl (And.intro (hH 0 (by decide)) (zB (hH 1 (by decide)) trivial)) (by repeat' (first | exact trivial | exact rfl | exact zX rfl | refine And.intro ?_ ?_)))) ?_
         repeat' (first | refine o1 ?_ | refine o2 ?_ | refine k1 ?_ | refine k2 ?_ | refine k3 ?_ | refine k6 ?_ | refine k8 ?_ | refine And.intro ?_ ?_ | (intro h; first | exact Bool.noConfusion h | exact nz _ h | exact nl h | (simp at h; done) | (simp at h; first | (exfalso; omega) | skip) | skip) | refine z8 ?_ | fail)
         all_goals first
          | (exfalso; omega)
          | exact ⟨(G, OUT), ⟨by dsimp only; simp at hsum; omega, by dsimp only; simp at hsum; omega, h3⟩, by dsimp only; simp at hsum ⊢; omega, zG [0, 1] rfl rfl (by repeat' (first | exact trivial | exact rfl | refine zB rfl ?_ | refine And.intro ?_ ?_)) (by repeat' (first | exact trivial | exact rfl | exact zX rfl | refine And.intro ?_ ?_))⟩
       · rw [if_neg (by simp)] at h3
         refine qc (Γ' := [(1, .ptr 0 4 0 0), (3, slP 1 1 (OUT.map qV)), (5, .pv (.sl 1 ((x :: a :: F).map zp))), (6, .pv (.sl 1 (G.map zp))), (22, .pv (.sl 1 (l.map zp))), (23, zf .i64 l.length), (24, zf .i64 l.length)]) (H' := [some ⟨29, 4, false, .box (pvs m.cells)⟩, obP 22 1 (OUT.map qV)]) (zC.trans (zC.freeze (s := 5) rfl rfl (by repeat' (first | (show 0 + _ ≤ List.length _; simp)))) (zC.trans (zC.weak (s := 5) rfl (ALe.pv (zef (f := zp) (l := x :: a :: F) (Nat.le_refl _)))) (zC.sl (s := 6) (id := 3) rfl rfl fun H' hl hH => zG [0, 1] rfl rfl (And.intro (hH 0 (by decide)) (zB (hH 1 (by decide)) trivial)) (by repeat' (first | exact trivial | exact rfl | exact zX rfl | refine And.intro ?_ ?_))))) ?_
         have hOl : OUT.length ≤ 576 := by omega
         repeat' (first | (refine xE ?_) | (refine zY ?_) | ((refine zbP rfl rfl rfl rfl rfl rfl rfl rfl rfl rfl rfl (by rw [List.length_map]; omega) (by rw [List.length_map]; omega) ?_)) | refine o1 ?_ | refine o2 ?_ | refine k1 ?_ | refine k2 ?_ | refine k3 ?_ | refine k8 ?_ | refine And.intro ?_ ?_ | (intro h; first | exact Bool.noConfusion h | exact nz _ h | exact nl h | (simp at h; done) | (simp at h; first | (exfalso; omega) | skip) | skip) | refine za ?_ | fail)
         all_goals first
          | (exfalso; omega)
          | (refine ⟨(G, OUT ++ [x :: a :: F]), ⟨by dsimp only; simp at hsum; omega, by dsimp only; simp at hsum ⊢; omega, by dsimp only; rw [List.append_assoc]; exact h3⟩, by dsimp only; simp at hsum ⊢; omega, ?_⟩
             dsimp only
             rw [zK, qh, qi]
             exact zG [0, 3] rfl rfl (by repeat' (first | exact trivial | exact rfl | refine And.intro ?_ ?_)) (by repeat' (first | exact trivial | exact rfl | refine And.intro ?_ ?_)))
 · have e : xf m = [] := if_neg hok
   rw [e]
   generalize qo m = E at hv hok
   refine zh tok mixed 56 rfl (fn := Tryz.f16) (c := Tryz.f16.body.getD .skip) (by kernel_rfl) (by kernel_rfl) (by kernel_rfl) rfl 0 rfl ?_
   repeat' (first | refine o1 ?_ | refine o2 ?_ | refine k1 ?_ | refine k2 ?_ | refine k3 ?_ | refine k7 ?_ | refine And.intro ?_ ?_ | (intro h; first | exact Bool.noConfusion h | exact nz _ h | exact nl h | (simp at h; done) | (simp at h; first | (exfalso; omega) | skip) | skip) | (change zz _ _ _ _; refine zd rfl trivial ?_) | (change zn _ _ _ _ _; refine zA rfl (by repeat' (first | trivial | refine And.intro ?_ ?_ | (show 0 + _ ≤ List.length _; simp))) zT.refl (hv) rfl ?_) | fail)
   all_goals first
    | (exfalso; omega)
    | exact ⟨ALe.pv PLe.nil⟩
theorem zlM (m : Model) (hl : Laid m) : zF Tryz.prog 16 [ag m.cells] (fun r => r = .pv (.sl 1 ((xf m).map qV))) := (c_Rooms0 m hl).weak fun r k => ⟨_, k.le, rfl⟩
end Go.Proofs.YtihpjcmloecaaaaGreat.Cw
namespace Go.Proofs.YtihpjcmloecaaaaGreat.Cw
open Go Go.Cw Go.Proofs
set_option linter.unusedVariables false
set_option maxRecDepth 100000
set_option maxHeartbeats 8000000
theorem zhF {m : Model} {x b : Int} : swB m x b = true ↔ zbt m x b := by unfold swB; simp
theorem ziv {κ : Type} {p : κ → Bool} : ∀ {D : List Bool} {l : List κ}, D.length = l.length → (∀ (j : Nat) y, D[j]? = some true → l[j]? = some y → p y = false) → (utk D l).filter p = l.filter p
 | [], [], _, _ => rfl
 | [], _ :: _, h, _ => by simp at h
 | _ :: _, [], h, _ => by simp at h
 | true :: D, y :: l, h, hp => by
   have h0 := hp 0 y rfl rfl
   have ih := ziv (p := p) (D := D) (l := l) (by simpa using h) fun j z h1 h2 => hp (j + 1) z (by simpa using h1) (by simpa using h2)
   show (utk D l).filter p = _
   rw [ih, List.filter_cons, h0]; rfl
 | false :: D, y :: l, h, hp => by
   have ih := ziv (p := p) (D := D) (l := l) (by simpa using h) fun j z h1 h2 => hp (j + 1) z (by simpa using h1) (by simpa using h2)
   show (y :: utk D l).filter p = _
   rw [List.filter_cons, List.filter_cons, ih]
theorem zlU {κ : Type} {p : κ → Bool} : ∀ {D E : List Bool} {l : List κ}, D.length = l.length → E.length = l.length → (∀ (j : Nat) d y, D[j]? = some d → l[j]? = some y → E[j]? = some (d || p y)) → utk E l = (utk D l).filter fun x => !p x
 | [], [], [], _, _, _ => rfl
 | [], _, _ :: _, h, _, _ => by simp at h
 | _ :: _, _, [], h, _, _ => by simp at h
 | _, [], _ :: _, _, h, _ => by simp at h
 | _, _ :: _, [], _, h, _ => by simp at h
 | d :: D, e :: E, y :: l, h1, h2, hp => by
   have ih := zlU (p := p) (D := D) (E := E) (l := l) (by simpa using h1) (by simpa using h2) fun j z w k1 k2 => by
    have := hp (j + 1) z w (by simpa using k1) (by simpa using k2)
    simpa using this
   have h0 := hp 0 d y rfl rfl
   simp only [List.getElem?_cons_zero, Option.some.injEq] at h0
   subst h0
   cases d <;> cases hpy : p y <;> simp [utk, ih, hpy]
noncomputable def dnL (m : Model) (V : List Int) (x : Int) (i k : Nat) (D : List Bool) : List Bool := D.mapIdx fun j d => d || (decide (i < j ∧ j < k) && swB m x (V.getD j 0))
section
variable {m : Model} {V : List Int} {x : Int} {i k : Nat} {D : List Bool}
theorem zia : (dnL m V x i k D).length = D.length := List.length_mapIdx
theorem zeO {j : Nat} {d : Bool} (h : D[j]? = some d) : (dnL m V x i k D)[j]? = some (d || (decide (i < j ∧ j < k) && swB m x (V.getD j 0))) := by
 unfold dnL; rw [List.getElem?_mapIdx, h]; rfl
theorem zgZ {j : Nat} (h : D[j]? = none) : (dnL m V x i k D)[j]? = none := by
 unfold dnL; rw [List.getElem?_mapIdx, h]; rfl
theorem dn_start : dnL m V x i (i + 1) D = D := by
 apply List.ext_getElem?
 intro j
 cases h : D[j]? with
 | none => rw [zgZ h]
 | some d =>
   rw [zeO h]
   have : decide (i < j ∧ j < i + 1) = false := decide_eq_false (by omega)
   rw [this]; simp
theorem dn_t {b : Int} (hb : V[k]? = some b) (hk : i < k) (hs : swB m x b = true) : dnL m V x i (k + 1) D = (dnL m V x i k D).set k true := by
 apply List.ext_getElem?
 intro j
 rw [List.getElem?_set]
 cases h : D[j]? with
 | none =>
   rw [zgZ h]
   split
   · rename_i e; subst e
     rw [if_neg]
     rw [zia]; have := List.getElem?_eq_none_iff.1 h; omega
   · rw [zgZ h]
 | some d =>
   rw [zeO h]
   split
   · rename_i e; subst e
     rw [if_pos (by rw [zia]; exact (List.getElem?_eq_some_iff.1 h).1)]
     have e1 : decide (i < k ∧ k < k + 1) = true := decide_eq_true ⟨hk, by omega⟩
     have e2 : V.getD k 0 = b := by rw [List.getD_eq_getElem?_getD, hb]; rfl
     rw [e1, e2, hs]; simp
   · rename_i e
     rw [zeO h]
     have e1 : decide (i < j ∧ j < k + 1) = decide (i < j ∧ j < k) := by
      congr 1; exact propext ⟨fun h => ⟨h.1, by omega⟩, fun h => ⟨h.1, by omega⟩⟩
     rw [e1]
theorem dn_f {b : Int} (hb : V[k]? = some b) (hs : swB m x b = false) : dnL m V x i (k + 1) D = dnL m V x i k D := by
 apply List.ext_getElem?
 intro j
 cases h : D[j]? with
 | none => rw [zgZ h, zgZ h]
 | some d =>
   rw [zeO h, zeO h]
   by_cases e : j = k
   · subst e
     have e2 : V.getD j 0 = b := by rw [List.getD_eq_getElem?_getD, hb]; rfl
     rw [e2, hs]; simp
   · have e1 : decide (i < j ∧ j < k + 1) = decide (i < j ∧ j < k) := by
    congr 1; exact propext ⟨fun h => ⟨h.1, by omega⟩, fun h => ⟨h.1, by omega⟩⟩
     rw [e1]
end
structure Rms (m : Model) (V : List Int) (i : Nat) (D : List Bool) (OUT : List (List Int)) : Prop where
 len : D.length = V.length
 out : OUT ++ zai m (utk (D.drop i) (V.drop i)).length (utk (D.drop i) (V.drop i)) = zai m V.length V
 many : OUT.length ≤ i
 done : ∀ k, i ≤ k → D[k]? = some true → ∃ (j : Nat) (y z : Int), j < i ∧ V[j]? = some y ∧ V[k]? = some z ∧ swB m y z = true ∧ ∀ (k' : Nat) (w : Int), j < k' → V[k']? = some w → swB m y w = true → D[k']? = some true
section
variable {m : Model} {V : List Int} {i : Nat} {D : List Bool} {OUT : List (List Int)}
theorem zn8 {κ : Type} : ∀ {l : List κ}, utk (List.replicate l.length false) l = l
 | [] => rfl
 | x :: l => by
   have ih := zn8 (l := l)
   show x :: utk (List.replicate l.length false) l = _
   rw [ih]
theorem Rms.start : Rms m V 0 (List.replicate V.length false) [] := by
 refine ⟨List.length_replicate, ?_, Nat.le_refl _, fun k _ h => ?_⟩
 · rw [List.drop_zero, List.drop_zero, zn8, List.nil_append]
 · have := List.getElem?_replicate (n := V.length) (a := false) (i := k)
   rw [this] at h
   split at h <;> simp at h
theorem Rms.skip {x : Int} (h : Rms m V i D OUT) (hx : V[i]? = some x) (hd : D[i]? = some true) : Rms m V (i + 1) D OUT := by
 refine ⟨h.len, ?_, by have := h.many; omega, fun k hk hkd => ?_⟩
 · have := h.out
   rw [zbn hx, zbn hd] at this
   exact this
 · obtain ⟨j, y, z, h1, h2⟩ := h.done k (by omega) hkd
   exact ⟨j, y, z, by omega, h2⟩
theorem Rms.take {x : Int} (hz : qD m) (hg : zdM m) (hV : V.Pairwise fun a b => a < b) (h : Rms m V i D OUT) (hx : V[i]? = some x) (hd : D[i]? = some false) :
 Rms m V (i + 1) (dnL m V x i V.length D) (OUT ++ if (V.drop (i + 1)).filter (swB m x) = [] then [] else [x :: (V.drop (i + 1)).filter (swB m x)]) := by
 have hlt : ∀ {j k : Nat} {y z : Int}, j < k → V[j]? = some y → V[k]? = some z → y < z := fun {j k y z} hjk h1 h2 => by
  obtain ⟨a1, rfl⟩ := List.getElem?_eq_some_iff.1 h1
  obtain ⟨a2, rfl⟩ := List.getElem?_eq_some_iff.1 h2
  exact List.pairwise_iff_getElem.1 hV j k a1 a2 hjk
 have hlen : (D.drop (i + 1)).length = (V.drop (i + 1)).length := by rw [List.length_drop, List.length_drop, h.len]
 have e1 : (utk (D.drop (i + 1)) (V.drop (i + 1))).filter (swB m x) = (V.drop (i + 1)).filter (swB m x) := by
  refine ziv hlen fun j y hj hy => ?_
  rw [List.getElem?_drop] at hj hy
  obtain ⟨j', y', z', k1, k2, k3, k4, k5⟩ := h.done (i + 1 + j) (by omega) hj
  rw [hy] at k3; cases k3
  cases hs : swB m x y with
  | false => rfl
  | true =>
    exfalso
    have t1 : zbt m y' y := zhF.1 k4
    have t2 : zbt m x y := zhF.1 hs
    have l1 := hlt k1 k2 hx
    have l2 := hlt (by omega : i < i + 1 + j) hx hy
    have t3 := zhD hz hg (by omega) (by omega) (by omega) t1 t2
    have := k5 i x k1 hx (zhF.2 t3)
    rw [hd] at this; cases this
 have e2 : utk ((dnL m V x i V.length D).drop (i + 1)) (V.drop (i + 1)) = (utk (D.drop (i + 1)) (V.drop (i + 1))).filter fun b => !swB m x b := by
  refine zlU hlen (by rw [List.length_drop, zia, List.length_drop, h.len]) fun j d y h1 h2 => ?_
  rw [List.getElem?_drop] at h1 h2 ⊢
  rw [zeO h1]
  have a1 : decide (i < i + 1 + j ∧ i + 1 + j < V.length) = true := decide_eq_true ⟨by omega, (List.getElem?_eq_some_iff.1 h2).1⟩
  have a2 : V.getD (i + 1 + j) 0 = y := by rw [List.getD_eq_getElem?_getD, h2]; rfl
  rw [a1, a2]; simp
 refine ⟨by rw [zia, h.len], ?_, ?_, fun k hk hkd => ?_⟩
 · have ho := h.out
   rw [zbn hx, zbn hd] at ho
   have hu : utk (false :: D.drop (i + 1)) (x :: V.drop (i + 1)) = x :: utk (D.drop (i + 1)) (V.drop (i + 1)) := rfl
   rw [hu] at ho
   rw [e2, ← ho, ← e1]
   generalize utk (D.drop (i + 1)) (V.drop (i + 1)) = R
   rw [List.append_assoc]
   congr 1
   show _ = (if R.filter (swB m x) = [] then [] else [x :: R.filter (swB m x)]) ++ zai m R.length (R.filter fun b => !swB m x b)
   rw [zgj (n := R.length) (List.length_filter_le ..) (Nat.le_refl _)]
 · have := h.many
   split <;> simp <;> omega
 · obtain ⟨d, hdk⟩ := qd (show k < D.length by have := (List.getElem?_eq_some_iff.1 hkd).1; rw [zia] at this; exact this)
   obtain ⟨z, hz'⟩ := qd (show k < V.length by rw [← h.len]; exact (List.getElem?_eq_some_iff.1 hdk).1)
   rw [zeO hdk] at hkd
   have hmono : ∀ k', D[k']? = some true → (dnL m V x i V.length D)[k']? = some true := fun k' hk' => by rw [zeO hk']; rfl
   cases d with
   | true =>
     obtain ⟨j, y, z2, h1, h2, h3, h4, h5⟩ := h.done k (by omega) hdk
     exact ⟨j, y, z2, by omega, h2, h3, h4, fun k' w a1 a2 a3 => hmono k' (h5 k' w a1 a2 a3)⟩
   | false =>
     have a2 : V.getD k 0 = z := by rw [List.getD_eq_getElem?_getD, hz']; rfl
     rw [a2] at hkd
     simp at hkd
     refine ⟨i, x, z, by omega, hx, hz', hkd.2, fun k' w b1 b2 b3 => ?_⟩
     obtain ⟨d', hd'⟩ := qd (show k' < D.length by rw [h.len]; exact (List.getElem?_eq_some_iff.1 b2).1)
     have c2 : V.getD k' 0 = w := by rw [List.getD_eq_getElem?_getD, b2]; rfl
     have c1 : decide (i < k' ∧ k' < V.length) = true := decide_eq_true ⟨b1, (List.getElem?_eq_some_iff.1 b2).1⟩
     rw [zeO hd', c1, c2, b3]; simp
theorem Rms.all (h : Rms m V V.length D OUT) : OUT = zai m V.length V := by
 have := h.out
 rw [List.drop_length, List.drop_of_length_le (by rw [h.len]; exact Nat.le_refl _)] at this
 have e : utk ([] : List Bool) ([] : List Int) = [] := rfl
 rw [e, zeq, List.append_nil] at this
 exact this
end
end Go.Proofs.YtihpjcmloecaaaaGreat.Cw
namespace Go.Proofs.YtihpjcmloecaaaaGreat.Cw
open Go Go.Cw Go.Proofs
set_option linter.unusedVariables false
set_option maxRecDepth 100000
set_option maxHeartbeats 8000000
theorem sub_next {V : List Int} {i k : Nat} {b : Int} (hb : V[k]? = some b) (hk : i < k) : (V.take (k + 1)).drop (i + 1) = (V.take k).drop (i + 1) ++ [b] := by
 have hkl := (List.getElem?_eq_some_iff.1 hb).1
 rw [xN hb, List.drop_append_of_le_length (by rw [List.length_take]; omega)]
theorem zpz (m : Model) (hl : Laid m) : zF Tryz.prog 17 [ag m.cells] (fun r => Leq r (.pv (.sl 1 ((xf m).map qV)))) := by
 have hv := zje m hl
 by_cases hok : qo m = 0
 · have hz := qH hok
   have hg := zae hok
   have hus := c_used m hz
   have hVl := zaK hz
   have hVs := xi m
   have e : xf m = zai m (zQ m).length (zQ m) := if_pos hok
   have hst := Rms.start (m := m) (V := zQ m)
   rw [e]
   rw [hok] at hv
   generalize zQ m = V at *
   have hex : ∀ {i k : Nat} {x b : Int}, i < k → V[i]? = some x → V[k]? = some b → pB (exP m x b) = swB m x b := fun {i k x b} hik hx hb => by
    have h1 := ((hVs.1 x).1 (List.mem_of_getElem? hx)).1
    have h2 := ((hVs.1 b).1 (List.mem_of_getElem? hb)).1
    obtain ⟨a1, a2⟩ := List.getElem?_eq_some_iff.1 hx
    obtain ⟨b1, b2⟩ := List.getElem?_eq_some_iff.1 hb
    have h3 := List.pairwise_iff_getElem.1 hVs.2 i k a1 b1 hik
    rw [a2, b2] at h3
    exact zgF ⟨fun h => h.2.2.2.2, fun h => ⟨hok, by omega, h1, h2, h⟩⟩
   refine zh tok mixed 74 rfl (fn := Tryz.f17) (c := Tryz.f17.body.getD .skip) (by kernel_rfl) (by kernel_rfl) (by kernel_rfl) rfl 0 rfl ?_
   repeat' (first | ((change zn _ _ _ _ _; refine qn rfl (by repeat' (first | trivial | refine And.intro ?_ ?_ | (show 0 + _ ≤ List.length _; simp))) zT.refl hus ?_; rintro _ rfl)) | (refine ⟨V.length, V.length, rfl, rfl, Nat.le_refl _, (by omega), (by omega), ?_⟩) | (refine zw ((List.replicate V.length false).map xF) (by rw [List.map_replicate]; rfl) ?_) | refine o1 ?_ | refine o2 ?_ | refine k1 ?_ | refine k2 ?_ | refine k3 ?_ | refine k4 ?_ | refine k6 ?_ | refine And.intro ?_ ?_ | (intro h; first | exact Bool.noConfusion h | exact nz _ h | exact nl h | (simp at h; done) | (simp at h; first | (exfalso; omega) | skip) | skip) | exact (by kernel_rfl : zl _ _ = true) | refine za ?_ | (change zn _ _ _ _ _; refine zA rfl (by repeat' (first | trivial | refine And.intro ?_ ?_ | (show 0 + _ ≤ List.length _; simp))) zT.refl (hv) rfl ?_) | fail)
   refine zy (fun x : Nat × List Bool × List (List Int) => [(1, .ptr 0 4 0 0), (3, .pv (.sl 1 (V.map zp))), (4, .ms 1 1 0 V.length), (5, slP 2 1 (x.2.2.map qV)), (6, zf .i64 x.1)])
    (fun x => [some ⟨29, 4, false, .box (pvs m.cells)⟩, some ⟨4, 1, false, .p (x.2.1.map xF)⟩, obP 22 1 (x.2.2.map qV)])
    (fun x => x.1 ≤ V.length ∧ Rms m V x.1 x.2.1 x.2.2) (fun x => V.length - x.1) (0, List.replicate V.length false, []) ⟨Nat.zero_le _, hst⟩ ?_ ?_
   · exact zG [0, 1, 2] rfl rfl (by repeat' (first | exact trivial | exact rfl | refine And.intro ?_ ?_)) (by repeat' (first | exact trivial | exact rfl | refine And.intro ?_ ?_))
   rintro ⟨i, D, OUT⟩ ⟨hi, hR⟩
   dsimp only at hi hR ⊢
   have hDl := hR.len
   have hOl : OUT.length ≤ 576 := by have := hR.many; omega
   rcases Nat.lt_or_ge i V.length with hlt | hge
   · obtain ⟨x, hx⟩ := qd hlt
     obtain ⟨d, hd⟩ := qd (show i < D.length by omega)
     have hdr : (D.map xF)[i]? = some (xF d) := zg hd
     cases d with
     | true =>
       have hsk := hR.skip hx hd
       repeat' (first | (refine zY ?_) | (refine xc i rfl hlt ?_) | (refine ⟨_, hdr, ?_⟩) | refine o1 ?_ | refine o2 ?_ | refine k1 ?_ | refine k2 ?_ | refine k3 ?_ | refine k4 ?_ | refine k6 ?_ | refine k8 ?_ | refine And.intro ?_ ?_ | (intro h; first | exact Bool.noConfusion h | exact nz _ h | exact nl h | (simp at h; done) | (simp at h; first | (exfalso; omega) | skip) | skip) | refine za ?_ | refine z8 ?_ | refine zc (by omega) (by omega) ?_ | fail)
       all_goals first
        | exact ⟨(i + 1, D, OUT), ⟨by dsimp only; omega, hsk⟩, by dsimp only; omega, zG [0, 1, 2] rfl rfl (by repeat' (first | exact trivial | exact rfl | refine zB rfl ?_ | refine And.intro ?_ ?_)) (by repeat' (first | exact trivial | exact rfl | exact zX rfl | refine And.intro ?_ ?_))⟩
     | false =>
       have htk := hR.take hz hg hVs.2 hx hd
       repeat' (first | (refine zY ?_) | (refine xc i rfl hlt ?_) | (refine ⟨_, hdr, ?_⟩) | (refine zi (k := i) (zg hx) rfl ?_) | refine o1 ?_ | refine o2 ?_ | refine k1 ?_ | refine k2 ?_ | refine k3 ?_ | refine k4 ?_ | refine k6 ?_ | refine And.intro ?_ ?_ | (intro h; first | exact Bool.noConfusion h | exact nz _ h | exact nl h | (simp at h; done) | (simp at h; first | (exfalso; omega) | skip) | skip) | refine za ?_ | refine z8 ?_ | refine zc (by omega) (by omega) ?_ | fail)
       refine zy (fun k : Nat => [(1, .ptr 0 4 0 0), (3, .pv (.sl 1 (V.map zp))), (4, .ms 1 1 0 V.length), (5, slP 2 1 (OUT.map qV)), (6, zf .i64 i), (7, .ms 3 1 0 ((((V.take k).drop (i + 1)).filter (swB m x)).length + 1)), (8, zf .i64 k)])
        (fun k => [some ⟨29, 4, false, .box (pvs m.cells)⟩, some ⟨4, 1, false, .p ((dnL m V x i k D).map xF)⟩, obP 22 1 (OUT.map qV), some ⟨3, 1, false, .p ((x :: ((V.take k).drop (i + 1)).filter (swB m x)).map zp)⟩])
        (fun k => i + 1 ≤ k ∧ k ≤ V.length) (fun k => V.length - k) (i + 1) ⟨Nat.le_refl _, hlt⟩ ?_ ?_
       · rw [dn_start, show (V.take (i + 1)).drop (i + 1) = [] from List.drop_of_length_le (by rw [List.length_take]; omega)]
         exact zG [0, 1, 2, 3] rfl rfl (by repeat' (first | exact trivial | exact rfl | refine zB rfl ?_ | refine And.intro ?_ ?_)) (by repeat' (first | exact trivial | exact rfl | exact zX rfl | refine And.intro ?_ ?_))
       intro k ⟨hk1, hk2⟩
       rcases Nat.lt_or_ge k V.length with hkl | hkg
       · obtain ⟨b, hb⟩ := qd hkl
         have hsw := c_rSwap m x b hl
         rw [hex (by omega) hx hb] at hsw
         have hF := sub_next hb (by omega : i < k)
         have hFl : (((V.take k).drop (i + 1)).filter (swB m x)).length ≤ 576 := by
          have h1 := List.length_filter_le (swB m x) ((V.take k).drop (i + 1))
          rw [List.length_drop, List.length_take] at h1; omega
         have hDk : (dnL m V x i k D).length = V.length := by rw [zia]; exact hDl
         cases hs : swB m x b with
         | true =>
           have hdn := dn_t (D := D) hb (by omega : i < k) hs
           rw [hs] at hsw
           have hF1 : ((V.take (k + 1)).drop (i + 1)).filter (swB m x) = ((V.take k).drop (i + 1)).filter (swB m x) ++ [b] := by rw [hF, List.filter_append]; simp [hs]
           generalize ((V.take k).drop (i + 1)).filter (swB m x) = F at *
           generalize dnL m V x i k D = DK at *
           obtain ⟨t, ht⟩ := qd (show k < DK.length by omega)
           have htr : (DK.map xF)[k]? = some (xF t) := zg ht
           have hsr : (DK.map xF).set k [.val (.bool true)] = (DK.set k true).map xF := by rw [List.map_set]; rfl
           repeat' (first | (refine zY ?_) | (refine zi (k := i) (zg hx) rfl ?_) | (refine zi (k := k) (zg hb) rfl ?_) | ((change zI _ _ _ _ _; refine zD rfl (by repeat' (first | trivial | refine And.intro ?_ ?_ | (show 0 + _ ≤ List.length _; simp))) zT.refl hsw rfl ?_)) | (refine xc k rfl hkl ?_) | (refine ⟨_, htr, ?_⟩) | (refine zw _ hsr ?_) | ((show zb _ * _ ≤ _; simp [zb] at *; omega)) | ((show zb _ ≤ _; simp [zb] at *; omega)) | refine o1 ?_ | refine o2 ?_ | refine k1 ?_ | refine k2 ?_ | refine k3 ?_ | refine k4 ?_ | refine k6 ?_ | refine And.intro ?_ ?_ | refine o3 ?_ | refine o4 ?_ | (intro h; first | exact Bool.noConfusion h | exact nz _ h | exact nl h | (simp at h; done) | (simp at h; first | (exfalso; omega) | skip) | skip) | (refine (?_ : qt _ = zb _); rfl) | exact Nat.le_of_ble_eq_true rfl | exact (by kernel_rfl : zl _ _ = true) | refine za ?_ | refine z8 ?_ | refine zc (by omega) (by omega) ?_ | (refine (?_ : _ = zb _); simp [zb] <;> omega) | refine zw _ (zbp rfl) (zw _ zcI ?_) | fail)
           refine ⟨k + 1, ⟨by omega, by omega⟩, by omega, ?_⟩
           rw [hdn, hF1]
           exact zG [0, 1, 2, 5] rfl rfl (by repeat' (first | exact trivial | exact rfl | refine zB rfl ?_ | refine And.intro ?_ ?_)) (by repeat' (first | exact trivial | exact rfl | exact zX rfl | refine And.intro ?_ ?_))
         | false =>
           have hdn := dn_f (D := D) (i := i) hb hs
           rw [hs] at hsw
           have hF1 : ((V.take (k + 1)).drop (i + 1)).filter (swB m x) = ((V.take k).drop (i + 1)).filter (swB m x) := by rw [hF, List.filter_append]; simp [hs]
           repeat' (first | (refine zY ?_) | (refine zi (k := i) (zg hx) rfl ?_) | (refine zi (k := k) (zg hb) rfl ?_) | ((change zI _ _ _ _ _; refine zD rfl (by repeat' (first | trivial | refine And.intro ?_ ?_ | (show 0 + _ ≤ List.length _; simp))) zT.refl hsw rfl ?_)) | refine o1 ?_ | refine o2 ?_ | refine k1 ?_ | refine k2 ?_ | refine k3 ?_ | refine k4 ?_ | refine k6 ?_ | refine And.intro ?_ ?_ | refine o3 ?_ | refine o4 ?_ | (intro h; first | exact Bool.noConfusion h | exact nz _ h | exact nl h | (simp at h; done) | (simp at h; first | (exfalso; omega) | skip) | skip) | exact (by kernel_rfl : zl _ _ = true) | refine za ?_ | refine zc (by omega) (by omega) ?_ | fail)
           all_goals first
            | (refine ⟨k + 1, ⟨by omega, by omega⟩, by omega, ?_⟩
               rw [hdn, hF1]
               exact zG [0, 1, 2, 3] rfl rfl (by repeat' (first | exact trivial | exact rfl | refine zB rfl ?_ | refine And.intro ?_ ?_)) (by repeat' (first | exact trivial | exact rfl | exact zX rfl | refine And.intro ?_ ?_)))
       · obtain rfl : k = V.length := by omega
         rw [List.take_length]
         generalize (V.drop (i + 1)).filter (swB m x) = F at *
         generalize dnL m V x i V.length D = DK at *
         refine zo ?_
         refine qc (Γ' := [(1, .ptr 0 4 0 0), (3, .pv (.sl 1 (V.map zp))), (4, .ms 1 1 0 V.length), (5, slP 2 1 (OUT.map qV)), (6, zf .i64 i), (7, .pv (.sl 1 ((x :: F).map zp))), (8, zf .i64 V.length)]) (H' := [some ⟨29, 4, false, .box (pvs m.cells)⟩, some ⟨4, 1, false, .p (DK.map xF)⟩, obP 22 1 (OUT.map qV)]) (zC.trans (zC.freeze (s := 7) rfl rfl (by repeat' (first | (show 0 + _ ≤ List.length _; simp)))) (zC.trans (zC.weak (s := 7) rfl (ALe.pv (zef (f := zp) (l := x :: F) (Nat.le_refl _)))) (zG [0, 1, 2] rfl rfl (by repeat' (first | exact trivial | exact rfl | refine zB rfl ?_ | refine And.intro ?_ ?_)) (by repeat' (first | exact trivial | exact rfl | exact zX rfl | refine And.intro ?_ ?_))))) ?_
         rcases F with _ | ⟨a, F⟩
         · repeat' (first | refine o1 ?_ | refine o2 ?_ | refine k1 ?_ | refine k2 ?_ | refine k3 ?_ | refine k6 ?_ | refine k8 ?_ | refine And.intro ?_ ?_ | (intro h; first | exact Bool.noConfusion h | exact nz _ h | exact nl h | (simp at h; done) | (simp at h; first | (exfalso; omega) | skip) | skip) | refine za ?_ | refine zc (by omega) (by omega) ?_ | fail)
           all_goals first
            | (exfalso; omega)
            | exact ⟨(i + 1, DK, OUT), ⟨by dsimp only; omega, by simpa using htk⟩, by dsimp only; omega, zG [0, 1, 2] rfl rfl (by repeat' (first | exact trivial | exact rfl | refine zB rfl ?_ | refine And.intro ?_ ?_)) (by repeat' (first | exact trivial | exact rfl | exact zX rfl | refine And.intro ?_ ?_))⟩
         · repeat' (first | (refine xE ?_) | (refine zY ?_) | ((refine zbP rfl rfl rfl rfl rfl rfl rfl rfl rfl rfl rfl (by rw [List.length_map]; omega) (by rw [List.length_map]; omega) ?_)) | refine o1 ?_ | refine o2 ?_ | refine k1 ?_ | refine k2 ?_ | refine k3 ?_ | refine k8 ?_ | refine And.intro ?_ ?_ | (intro h; first | exact Bool.noConfusion h | exact nz _ h | exact nl h | (simp at h; done) | (simp at h; first | (exfalso; omega) | skip) | skip) | refine za ?_ | refine zc (by omega) (by omega) ?_ | fail)
           all_goals first
            | (exfalso; omega)
            | (refine ⟨(i + 1, DK, OUT ++ [x :: a :: F]), ⟨by dsimp only; omega, by simpa using htk⟩, by dsimp only; omega, ?_⟩
               dsimp only
               rw [zK, qh, qi]
               exact zG [0, 1, 4] rfl rfl (by repeat' (first | exact trivial | exact rfl | refine And.intro ?_ ?_)) (by repeat' (first | exact trivial | exact rfl | refine And.intro ?_ ?_)))
   · obtain rfl : i = V.length := by omega
     rw [← hR.all]
     repeat' (first | (refine xE ?_) | (refine zY ?_) | refine o1 ?_ | refine o2 ?_ | refine k1 ?_ | refine k2 ?_ | refine k3 ?_ | refine k7 ?_ | refine k8 ?_ | refine And.intro ?_ ?_ | (intro h; first | exact Bool.noConfusion h | exact nz _ h | exact nl h | (simp at h; done) | (simp at h; first | (exfalso; omega) | skip) | skip) | refine za ?_ | fail)
     exact zon rfl ⟨ALe.refl⟩ ziV
 · have e : xf m = [] := if_neg hok
   rw [e]
   generalize qo m = E at hv hok
   refine zh tok mixed 74 rfl (fn := Tryz.f17) (c := Tryz.f17.body.getD .skip) (by kernel_rfl) (by kernel_rfl) (by kernel_rfl) rfl 0 rfl ?_
   repeat' (first | refine o1 ?_ | refine o2 ?_ | refine k1 ?_ | refine k2 ?_ | refine k3 ?_ | refine k7 ?_ | refine And.intro ?_ ?_ | (intro h; first | exact Bool.noConfusion h | exact nz _ h | exact nl h | (simp at h; done) | (simp at h; first | (exfalso; omega) | skip) | skip) | (change zz _ _ _ _; refine zd rfl trivial ?_) | (change zn _ _ _ _ _; refine zA rfl (by repeat' (first | trivial | refine And.intro ?_ ?_ | (show 0 + _ ≤ List.length _; simp))) zT.refl (hv) rfl ?_) | fail)
   all_goals first
    | (exfalso; omega)
    | exact ⟨ALe.pv PLe.nil⟩
theorem c_rRooms (m : Model) (hl : Laid m) : zF Tryz.prog 17 [ag m.cells] (fun r => r = .pv (.sl 1 ((xf m).map qV))) := (zpz m hl).weak fun r k => ⟨_, k.le, rfl⟩
end Go.Proofs.YtihpjcmloecaaaaGreat.Cw
namespace Go.Proofs.YtihpjcmloecaaaaGreat.Cw
open Go Go.Cw Go.Proofs
set_option linter.unusedVariables false
set_option maxRecDepth 100000
set_option maxHeartbeats 8000000
theorem zlE (l : List Int) (hl : l.length ≤ 100000) : zF Tryz.prog 21 [.pv (.sl 1 (l.map zp)), .pv (.sl 1 (l.map zp))] (fun r => r = zm true) := znO l hl
theorem zgk {m : Model} : ∀ {n : Nat} {l : List Int}, (zai m n l).length ≤ l.length ∧ ∀ s ∈ zai m n l, s.length ≤ l.length
 | 0, l => ⟨Nat.zero_le _, by simp [zai]⟩
 | n + 1, [] => ⟨Nat.zero_le _, by simp [zai]⟩
 | n + 1, x :: l => by
   obtain ⟨h1, h2⟩ := zgk (m := m) (n := n) (l := l.filter fun b => !swB m x b)
   have h3 := List.length_filter_le (fun b => !swB m x b) l
   have h4 := List.length_filter_le (swB m x) l
   unfold zai
   split
   · rw [List.nil_append]
     refine ⟨by simp only [List.length_cons]; omega, fun s hs => ?_⟩
     have := h2 s hs
     simp only [List.length_cons]; omega
   · refine ⟨by simp only [List.length_append, List.length_cons, List.length_nil]; omega, fun s hs => ?_⟩
     rcases List.mem_append.1 hs with hs | hs
     · simp at hs; subst hs; simp only [List.length_cons]; omega
     · have := h2 s hs
       simp only [List.length_cons]; omega
theorem zoh {m : Model} : (xf m).length ≤ 576 ∧ ∀ s ∈ xf m, s.length ≤ 576 := by
 unfold xf
 split
 · rename_i h
   have h1 := zaK (qH h)
   obtain ⟨h2, h3⟩ := zgk (m := m) (n := (zQ m).length) (l := zQ m)
   exact ⟨by omega, fun s hs => by have := h3 s hs; omega⟩
 · exact ⟨by simp, by simp⟩
end Go.Proofs.YtihpjcmloecaaaaGreat.Cw
namespace Go.Proofs.YtihpjcmloecaaaaGreat.Cw
open Go.Cw Go.Proofs
set_option linter.unusedVariables false
set_option maxRecDepth 100000
set_option maxHeartbeats 1600000
def plc (m : Model) (plan : List Int) (i : Nat) : Option Placed := match m.classes[i]?, plan[i]? with
 | some l, some o => (l[o.toNat]?).map Opt.place
 | _, _ => none
def placesTo (m : Model) (plan : List Int) (n : Nat) : List Placed := (List.range n).filterMap (plc m plan)
noncomputable def placesV (m : Model) (plan : List Int) : List Placed := if zpj m plan = 0 then placesTo m plan plan.length else []
def mbox (m : Model) : Option AObj := some ⟨29, 4, false, .box [.pv (.sl 1 (m.classes.map zx)), .pv (.sl 4 (m.pairs.map Pair.row)), .pv (.sl 4 (m.counts.map Count.row)), zf .i64 m.rules]⟩
end Go.Proofs.YtihpjcmloecaaaaGreat.Cw
namespace Go.Proofs.YtihpjcmloecaaaaGreat.Cw
open Go Go.Cw Go.Proofs
set_option linter.unusedVariables false
set_option maxRecDepth 100000
set_option maxHeartbeats 8000000
noncomputable def zhK (S : List (List Int)) (r : Int) : List Int := (S.find? fun s => pB (r ∈ s)).getD []
theorem zhx {α : Type} {f : α → Bool} {l : List α} {i : Nat} {x : α} (h : ∀ j, j < i → ∀ y, l[j]? = some y → f y = false) (hx : l[i]? = some x) (hf : f x = true) : l.find? f = some x := by
 induction l generalizing i with
 | nil => simp at hx
 | cons a l ih =>
   cases i with
   | zero => simp at hx; subst hx; rw [List.find?_cons, hf]
   | succ i =>
     rw [List.find?_cons, h 0 (by omega) a rfl]
     exact ih (i := i) (fun j hj y hy => h (j + 1) (Nat.succ_lt_succ hj) y (by simpa using hy)) (by simpa using hx)
theorem zi3 {α : Type} {f : α → Bool} {l : List α} (h : ∀ j, j < l.length → ∀ y, l[j]? = some y → f y = false) : l.find? f = none := by
 rw [List.find?_eq_none]
 intro x hx
 obtain ⟨j, hj⟩ := List.getElem?_of_mem hx
 rw [h j (List.getElem?_eq_some_iff.1 hj).1 x hj]; decide
theorem c_setOf0 (S : List (List Int)) (r : Int) (hS : S.length ≤ 100000) (hs : ∀ s ∈ S, s.length ≤ 100000) : zF Tryz.prog 47 [.pv (.sl 1 (S.map qV)), zf .i64 r] (fun x => Leq x (.pv (.sl 1 ((zhK S r).map zp)))) := by
 refine zh tok mixed 18 rfl (fn := Tryz.f47) (c := Tryz.f47.body.getD .skip) (by kernel_rfl) (by kernel_rfl) (by kernel_rfl) rfl 0 rfl ?_
 repeat' (first | refine o1 ?_ | refine o2 ?_ | refine k1 ?_ | refine k2 ?_ | refine k4 ?_ | refine za ?_ | fail)
 refine zy (fun i : Nat => [(1, zf .i64 r), (7, .pv (.sl 1 (S.map qV))), (8, zf .i64 S.length), (9, zf .i64 i)]) (fun _ => [])
  (fun i => i ≤ S.length ∧ ∀ j, j < i → ∀ y, S[j]? = some y → pB (r ∈ y) = false) (fun i => S.length - i) 0 ⟨Nat.zero_le _, fun j hj => absurd hj (Nat.not_lt_zero _)⟩ ?_ ?_
 · exact zG [] rfl rfl trivial (by repeat' (first | exact trivial | exact rfl | refine And.intro ?_ ?_))
 rintro i ⟨hi, hn⟩
 rcases Nat.lt_or_ge i S.length with hlt | hge
 · obtain ⟨s, hs1⟩ := qd hlt
   have hc := zhf s r (hs s (List.mem_of_getElem? hs1))
   cases hb : pB (r ∈ s)
   · rw [hb] at hc
     repeat' (first | (refine zi (k := i) (zg hs1) (by omega) ?_) | refine o1 ?_ | refine o2 ?_ | refine k1 ?_ | refine k2 ?_ | refine k3 ?_ | refine k4 ?_ | refine k6 ?_ | refine And.intro ?_ ?_ | (intro h; first | exact Bool.noConfusion h | exact nz _ h | exact nl h | (simp at h; done) | (simp at h; first | (exfalso; omega) | skip) | skip) | refine zc (by omega) (by omega) ?_ | (change zn _ _ _ _ _; refine zA rfl (by repeat' (first | trivial | refine And.intro ?_ ?_ | (show 0 + _ ≤ List.length _; simp))) zT.refl (hc) rfl ?_) | fail)
     all_goals first
      | (exfalso; omega)
      | exact ⟨i + 1, ⟨by omega, fun j hj y hy => by
       rcases Nat.lt_or_ge j i with h1 | h1
       · exact hn j h1 y hy
       · obtain rfl : j = i := by omega
         rw [hs1] at hy; cases hy; exact hb⟩, by omega, zG [] rfl rfl trivial (by repeat' (first | exact trivial | exact rfl | refine And.intro ?_ ?_))⟩
   · rw [hb] at hc
     have e : zhK S r = s := by unfold zhK; rw [zhx hn hs1 hb]; rfl
     rw [e]
     repeat' (first | (refine zi (k := i) (zg hs1) (by omega) ?_) | refine o1 ?_ | refine o2 ?_ | refine k1 ?_ | refine k2 ?_ | refine k3 ?_ | refine k4 ?_ | refine k6 ?_ | refine k7 ?_ | refine And.intro ?_ ?_ | (intro h; first | exact Bool.noConfusion h | exact nz _ h | exact nl h | (simp at h; done) | (simp at h; first | (exfalso; omega) | skip) | skip) | (change zz _ _ _ _; refine zd rfl trivial ?_) | (change zn _ _ _ _ _; refine zA rfl (by repeat' (first | trivial | refine And.intro ?_ ?_ | (show 0 + _ ≤ List.length _; simp))) zT.refl (hc) rfl ?_) | fail)
     all_goals first
      | (exfalso; omega)
      | exact ⟨ALe.refl⟩
 · have e : zhK S r = [] := by unfold zhK; rw [zi3 fun j hj => hn j (by omega)]; rfl
   rw [e]
   repeat' (first | refine o1 ?_ | refine o2 ?_ | refine k1 ?_ | refine k2 ?_ | refine k3 ?_ | refine k7 ?_ | refine k8 ?_ | refine And.intro ?_ ?_ | (intro h; first | exact Bool.noConfusion h | exact nz _ h | exact nl h | (simp at h; done) | (simp at h; first | (exfalso; omega) | skip) | skip) | (change zz _ _ _ _; refine zd rfl trivial ?_) | fail)
   all_goals first
    | (exfalso; omega)
    | exact ⟨ALe.pv PLe.nil⟩
theorem c_setOf (S : List (List Int)) (r : Int) (hS : S.length ≤ 100000) (hs : ∀ s ∈ S, s.length ≤ 100000) : zF Tryz.prog 47 [.pv (.sl 1 (S.map qV)), zf .i64 r] (fun x => x = .pv (.sl 1 ((zhK S r).map zp))) := (c_setOf0 S r hS hs).weak fun r k => ⟨_, k.le, rfl⟩
def zgS (m : Model) (plan : List Int) : Prop := plan.length = m.classes.length ∧ ∀ j : Nat, j < plan.length → ∀ o l, plan[j]? = some o → m.classes[j]? = some l → -1 ≤ o ∧ o < l.length
theorem c_isPlan (m : Model) (plan : List Int) (hz : qD m) : zF Tryz.prog 43 [ag m.cells, .pv (qN plan)] (fun r => r = zm (pB (zgS m plan))) := by
 refine zh tok mixed 33 rfl (fn := Tryz.f43) (c := Tryz.f43.body.getD .skip) (by kernel_rfl) (by kernel_rfl) (by kernel_rfl) rfl 0 rfl ?_
 have hcn := hz.1
 repeat' (first | refine o1 ?_ | refine o2 ?_ | refine k1 ?_ | refine k2 ?_ | refine k3 ?_ | refine k4 ?_ | refine k6 ?_ | refine k7 ?_ | refine And.intro ?_ ?_ | (intro h; first | exact Bool.noConfusion h | exact nz _ h | exact nl h | (simp at h; done) | (simp at h; first | (exfalso; omega) | skip) | skip) | (change zz _ _ _ _; refine zd rfl trivial ?_) | refine za ?_ | fail)
 all_goals first
  | exact congrArg zm (zad fun h => by have := h.1; omega).symm
  | skip
 have hpl : plan.length = m.classes.length := by omega
 refine zy (fun i : Nat => [(2, .ptr 0 4 0 0), (13, .pv (qN plan)), (14, zf .i64 plan.length), (15, zf .i64 i)]) (fun _ => [some ⟨29, 4, false, .box [.pv (.sl 1 (m.classes.map zx)), .pv (.sl 4 (m.pairs.map Pair.row)), .pv (.sl 4 (m.counts.map Count.row)), .pv (ei m.rules)]⟩])
  (fun i => i ≤ plan.length ∧ ∀ j : Nat, j < i → ∀ o l, plan[j]? = some o → m.classes[j]? = some l → -1 ≤ o ∧ o < l.length) (fun i => plan.length - i) 0 ⟨Nat.zero_le _, fun j hj => absurd hj (Nat.not_lt_zero _)⟩ ?_ ?_
 · exact zG [0] rfl rfl (by repeat' (first | exact trivial | exact rfl | refine And.intro ?_ ?_)) (by repeat' (first | exact trivial | exact rfl | refine And.intro ?_ ?_))
 rintro i ⟨hi, hall⟩
 rcases Nat.lt_or_ge i plan.length with hlt | hge
 · obtain ⟨o, ho⟩ := qd hlt
   obtain ⟨l, hl⟩ := qd (l := m.classes) (i := i) (by omega)
   have hln := hz.2.1 l (List.mem_of_getElem? hl)
   have hstep : -1 ≤ o → o < l.length → ∀ j : Nat, j < i + 1 → ∀ o l, plan[j]? = some o → m.classes[j]? = some l → -1 ≤ o ∧ o < l.length := fun h1 h2 j hj o' l' ho' hl' => by
    rcases Nat.lt_or_ge j i with h3 | h3
    · exact hall j h3 o' l' ho' hl'
    · obtain rfl : j = i := by omega
      rw [ho] at ho'; rw [hl] at hl'; cases ho'; cases hl'; exact ⟨h1, h2⟩
   repeat' (first | (refine zi (k := i) (zg ho) (by omega) ?_) | (refine zi (k := i) (zg hl) (by omega) ?_) | refine o1 ?_ | refine o2 ?_ | refine k1 ?_ | refine k2 ?_ | refine k3 ?_ | refine k4 ?_ | refine k6 ?_ | refine k7 ?_ | refine And.intro ?_ ?_ | (intro h; first | exact Bool.noConfusion h | exact nz _ h | exact nl h | (simp at h; done) | (simp at h; first | (exfalso; omega) | skip) | skip) | (change zz _ _ _ _; refine zd rfl trivial ?_) | refine za ?_ | refine zc (by omega) (by omega) ?_ | fail)
   all_goals first
    | (refine congrArg zm (zad fun h => ?_).symm; have := h.2 i hlt o l ho hl; omega)
    | exact ⟨i + 1, ⟨by omega, hstep (by omega) (by omega)⟩, by omega, zG [0] rfl rfl (by repeat' (first | exact trivial | exact rfl | refine And.intro ?_ ?_)) (by repeat' (first | exact trivial | exact rfl | refine And.intro ?_ ?_))⟩
 · repeat' (first | refine o1 ?_ | refine o2 ?_ | refine k1 ?_ | refine k2 ?_ | refine k3 ?_ | refine k7 ?_ | refine k8 ?_ | refine And.intro ?_ ?_ | (intro h; first | exact Bool.noConfusion h | exact nz _ h | exact nl h | (simp at h; done) | (simp at h; first | (exfalso; omega) | skip) | skip) | (change zz _ _ _ _; refine zd rfl trivial ?_) | fail)
   all_goals first
    | exact congrArg zm (zaM ⟨hpl, fun j hj => hall j (by omega)⟩).symm
end Go.Proofs.YtihpjcmloecaaaaGreat.Cw
namespace Go.Proofs.YtihpjcmloecaaaaGreat.Cw
open Go Go.Cw Go.Proofs
set_option linter.unusedVariables false
set_option maxRecDepth 100000
set_option maxHeartbeats 8000000
def zhl (f : Int × Int → Int × PV) : Nat → List (Int × Int) → List (Value × Nat × AV)
 | _, [] => []
 | b, e :: E => (.int .i64 (f e).1, b, .pv (f e).2) :: zhl f (b + 1) E
section
variable {f : Int × Int → Int × PV} {k : Int}
theorem ziL : ∀ {E : List (Int × Int)} {b : Nat}, zfg (.int .i64 k) (zhl f b E) = (E.find? fun e => k == (f e).1).map fun e => .pv (f e).2
 | [], b => rfl
 | e :: E, b => by
   simp only [zhl, zfg, List.find?_cons]
   show (bif k == (f e).1 then _ else _) = _
   cases k == (f e).1
   · exact ziL
   · rfl
theorem ziK {v : AV} {ck : Nat} : ∀ {E : List (Int × Int)} {b : Nat}, (E.find? fun e => k == (f e).1) = none → zjp (.int .i64 k) v ck (zhl f b E) = zhl f b E ++ [(.int .i64 k, ck, v)]
 | [], b, _ => rfl
 | e :: E, b, h => by
   simp only [zhl, zjp, List.find?_cons] at *
   cases hk : k == (f e).1
   · rw [hk] at h
     show (bif k == (f e).1 then _ else _) = _
     rw [hk]
     show _ :: _ = _ :: _
     rw [ziK h]; rfl
   · rw [hk] at h; cases h
theorem ziM {e : Int × Int} : ∀ {E : List (Int × Int)} {b : Nat}, zhl f b (E ++ [e]) = zhl f b E ++ [(.int .i64 (f e).1, b + E.length, .pv (f e).2)]
 | [], b => rfl
 | a :: E, b => by
   simp only [zhl, List.cons_append, List.length_cons]
   rw [ziM, show b + 1 + E.length = b + (E.length + 1) by omega]
theorem zjS : ∀ {E : List (Int × Int)} {b : Nat}, pureM (zhl f b E)
 | [], b => fun e h => absurd h List.not_mem_nil
 | a :: E, b => fun e h => by
   simp only [zhl, List.mem_cons] at h
   rcases h with rfl | h
   · exact ⟨_, rfl⟩
   · exact zjS e h
end
def fTo (e : Int × Int) : Int × PV := (e.1, .val (.int .i64 e.2))
def fTk (e : Int × Int) : Int × PV := (e.2, .val (.bool true))
def mapN (ty : Nat) (f : Int × Int → Int × PV) (E : List (Int × Int)) : Option AObj := some ⟨ty, 1, false, .mp .num .i64 (zhl f 0 E) E.length⟩
theorem qU {ty d i : Nat} {H Hc : zq} {rn l : List Nat} {f : Int × Int → Int × PV} {E : List (Int × Int)} (h : H[i]? = some (mapN ty f E)) (hk : zat H d rn l Hc) : zat H d rn (i :: l) (mapN ty f E :: Hc) :=
 ⟨(by show _ = some (some (zd5 _ _ _)); rw [zc6 zjS]; exact h), hk⟩
def toF (E : List (Int × Int)) (r : Int) : Option Int := (E.find? fun e => r == e.1).map (·.2)
def zbj (E : List (Int × Int)) (t : Int) : Bool := (E.find? fun e => t == e.2).isSome
def zfH (o : Option Nat) : Int := ((o.getD 0 : Nat) : Int)
def zaL (E : List (Int × Int)) (g : Int → Int) (st : Int × Int) (t : Int) : Int × Int := if zbj E t then st else if st.1 < 0 ∨ g t < st.2 then (t, g t) else st
noncomputable def zbT (S : List (List Int)) (l : List Opt) (o : Nat) (r : Int) (c : Nat) (st : List Int × List (Int × Int)) : List Int × List (Int × Int) :=
 match toF st.2 r with
 | some t => (st.1.set c (zfH (zaW l o t)), st.2)
 | none => (st.1.set c ((zhK S r).foldl (zaL st.2 fun t => zfH (zaW l o t)) (-1, (o : Int))).2, if 0 ≤ ((zhK S r).foldl (zaL st.2 fun t => zfH (zaW l o t)) (-1, (o : Int))).1 then st.2 ++ [(r, ((zhK S r).foldl (zaL st.2 fun t => zfH (zaW l o t)) (-1, (o : Int))).1)] else st.2)
noncomputable def zf4 (m : Model) (plan : List Int) (S : List (List Int)) : Nat → List Int × List (Int × Int)
 | 0 => (plan, [])
 | k + 1 => match plan[k]?, m.classes[k]? with
   | some o, some l => if o < 0 then zf4 m plan S k else match l[o.toNat]? with
     | some q => zbT S l o.toNat q.place.room k (zf4 m plan S k)
     | none => zf4 m plan S k
   | _, _ => zf4 m plan S k
noncomputable def canV (m : Model) (plan : List Int) : List Int := (zf4 m plan (xf m) plan.length).1
noncomputable def znK (m : Model) (plan : List Int) : Int := if qo m = 0 then (if pB (zgS m plan) then 0 else 17) else qo m
noncomputable def znZ (m : Model) (plan : List Int) : List Int := if znK m plan = 0 then canV m plan else []
theorem zlA {l : List Int} {H : zq} {K : AV → zq → Prop} (hl : 0 < l.length ∧ l.length ≤ 100000) (hK : K (.ms H.length 1 0 l.length) (H ++ [some ⟨3, 1, false, .p (l.map zp)⟩])) : zn Tryz.prog 44 [.pv (.sl 1 (l.map zp))] H K := by
 refine zaF [] [] [.pv (.sl 1 (l.map zp))] rfl trivial rfl (zm5 l hl) fun r Hc' hp => ?_
 obtain ⟨rfl, rfl⟩ := hp
 exact ⟨Nat.zero_le _, hK⟩
def mdlO (m : Model) : Option AObj := some ⟨29, 4, false, .box [.pv (.sl 1 (m.classes.map zx)), .pv (.sl 4 (m.pairs.map Pair.row)), .pv (.sl 4 (m.counts.map Count.row)), .pv (ei m.rules)]⟩
theorem zoX {o : Option Nat} : imgA o = .tup [zf .i64 (zfH o), zm o.isSome] := by cases o <;> rfl
theorem set_same {α : Type} {l : List α} {c : Nat} {x : α} (h : l[c]? = some x) : l.set c x = l := by
 obtain ⟨hl, rfl⟩ := List.getElem?_eq_some_iff.1 h
 exact List.set_getElem_self hl
theorem get_to {E : List (Int × Int)} {r : Int} : zfg (.int .i64 r) (zhl fTo 0 E) = (toF E r).map fun t => zf .i64 t := by
 rw [ziL]; unfold toF; rw [Option.map_map]; rfl
theorem get_tk {E : List (Int × Int)} {t : Int} : zfg (.int .i64 t) (zhl fTk 0 E) = if zbj E t then some (zm true) else none := by
 rw [ziL]; unfold zbj
 show (E.find? fun e => t == e.2).map _ = _
 cases (E.find? fun e => t == e.2) <;> rfl
theorem put_to {E : List (Int × Int)} {r b : Int} (h : toF E r = none) : zjp (.int .i64 r) (zf .i64 b) E.length (zhl fTo 0 E) = zhl fTo 0 (E ++ [(r, b)]) := by
 have h : (E.find? fun e => r == (fTo e).1) = none := by
  show (E.find? fun e => r == e.1) = none
  unfold toF at h
  cases hf : (E.find? fun e => r == e.1) with
  | none => rfl
  | some e => rw [hf] at h; cases h
 rw [ziK h, ziM, Nat.zero_add]; rfl
theorem put_tk {E : List (Int × Int)} {r b : Int} (h : zbj E b = false) : zjp (.int .i64 b) (zm true) E.length (zhl fTk 0 E) = zhl fTk 0 (E ++ [(r, b)]) := by
 have h : (E.find? fun e => b == (fTk e).1) = none := by
  show (E.find? fun e => b == e.2) = none
  unfold zbj at h
  cases hf : (E.find? fun e => b == e.2) with
  | none => rfl
  | some e => rw [hf] at h; cases h
 rw [ziK h, ziM, Nat.zero_add]; rfl
theorem ck_to {E : List (Int × Int)} {r b : Int} (h : toF E r = none) : ckM (.int .i64 r) E.length (zhl fTo 0 E) = (E ++ [(r, b)]).length := by
 unfold ckM; rw [get_to, h, List.length_append]; rfl
theorem ck_tk {E : List (Int × Int)} {r b : Int} (h : zbj E b = false) : ckM (.int .i64 b) E.length (zhl fTk 0 E) = (E ++ [(r, b)]).length := by
 unfold ckM; rw [get_tk, h, List.length_append]; rfl
theorem zlc {E : List (Int × Int)} {g : Int → Int} {st : Int × Int} {t : Int} (h : zbj E t = true) : zaL E g st t = st := by unfold zaL; rw [if_pos h]
theorem zjQ {E : List (Int × Int)} {g : Int → Int} {st : Int × Int} {t : Int} (h : zbj E t = false) (h2 : st.1 < 0 ∨ g t < st.2) : zaL E g st t = (t, g t) := by unfold zaL; rw [if_neg (by rw [h]; decide), if_pos h2]
theorem zhP {E : List (Int × Int)} {g : Int → Int} {st : Int × Int} {t : Int} (h : zbj E t = false) (h2 : ¬ (st.1 < 0 ∨ g t < st.2)) : zaL E g st t = st := by unfold zaL; rw [if_neg (by rw [h]; decide), if_neg h2]
theorem zjP {E : List (Int × Int)} {g : Int → Int} : ∀ {l : List Int} {st : Int × Int}, st.1 < 0 ∨ zbj E st.1 = false → (l.foldl (zaL E g) st).1 < 0 ∨ zbj E (l.foldl (zaL E g) st).1 = false
 | [], st, h => h
 | t :: l, st, h => by
   refine zjP (l := l) ?_
   unfold zaL
   cases ht : zbj E t
   · simp only [Bool.false_eq_true, if_false]
     split
     · exact .inr ht
     · exact h
   · simpa using h
theorem zg9 {m : Model} {plan : List Int} {S : List (List Int)} {c : Nat} {o : Int} {l : List Opt} (ho : plan[c]? = some o) (hl : m.classes[c]? = some l) : zf4 m plan S (c + 1) = if o < 0 then zf4 m plan S c else match l[o.toNat]? with
 | some q => zbT S l o.toNat q.place.room c (zf4 m plan S c)
 | none => zf4 m plan S c := by
 rw [zf4, ho, hl]
theorem zlz {S : List (List Int)} {l : List Opt} {o : Nat} {r : Int} {c : Nat} {st : List Int × List (Int × Int)} : (zbT S l o r c st).1.length = st.1.length ∧ ∀ j : Nat, c < j → (zbT S l o r c st).1[j]? = st.1[j]? := by
 unfold zbT
 split
 · exact ⟨List.length_set .., fun j hj => List.getElem?_set_ne (by omega)⟩
 · exact ⟨List.length_set .., fun j hj => List.getElem?_set_ne (by omega)⟩
theorem zmW {m : Model} {plan : List Int} {S : List (List Int)} (hp : zgS m plan) : ∀ {c : Nat}, c ≤ plan.length → (zf4 m plan S c).1.length = plan.length ∧ ∀ j : Nat, c ≤ j → (zf4 m plan S c).1[j]? = plan[j]?
 | 0, _ => ⟨rfl, fun _ _ => rfl⟩
 | c + 1, hc => by
   obtain ⟨h1, h2⟩ := zmW hp (c := c) (S := S) (by omega)
   obtain ⟨o, ho⟩ := qd (l := plan) (i := c) (by omega)
   obtain ⟨l, hl⟩ := qd (l := m.classes) (i := c) (by have := hp.1; omega)
   rw [zg9 ho hl]
   split
   · exact ⟨h1, fun j hj => h2 j (by omega)⟩
   · split
     · obtain ⟨g1, g2⟩ := zlz (S := S) (l := l) (o := o.toNat) (r := (‹Opt›).place.room) (c := c) (st := zf4 m plan S c)
       exact ⟨by rw [g1, h1], fun j hj => by rw [g2 j (by omega), h2 j (by omega)]⟩
     · exact ⟨h1, fun j hj => h2 j (by omega)⟩
theorem setF_len {S : List (List Int)} {r : Int} {n : Nat} (h : ∀ s ∈ S, s.length ≤ n) : (zhK S r).length ≤ n := by
 unfold zhK
 cases hf : S.find? fun s => pB (r ∈ s) with
 | none => exact Nat.zero_le _
 | some s => exact h s (List.mem_of_find?_eq_some hf)
theorem c_canon0 (m : Model) (plan : List Int) (hl : Laid m) : zF Tryz.prog 19 [ag m.cells, .pv (qN plan)] (fun r => Leq r (.tup [.pv (.sl 1 ((znZ m plan).map zp)), zf .i64 (znK m plan)])) := by
 have hv := zjd m hl
 by_cases hok : qo m = 0
 · have hz := qH hok
   have hp := c_isPlan m plan hz
   rw [hok] at hv
   by_cases hpl : zgS m plan
   · rw [zaM hpl] at hp
     have hR := zlM m hl
     rcases plan with _ | ⟨p0, plan⟩
     · have e1 : znK m [] = 0 := by unfold znK; rw [if_pos hok, zaM hpl]; rfl
       have e2 : znZ m [] = [] := by unfold znZ; rw [if_pos e1]; rfl
       rw [e1, e2]
       have hce := zkA 0
       refine zh tok mixed 122 rfl (fn := Tryz.f19) (c := Tryz.f19.body.getD .skip) (by kernel_rfl) (by kernel_rfl) (by kernel_rfl) rfl 0 rfl ?_
       repeat' (first | ((change zn _ _ _ _ _; refine qn rfl (by repeat' (first | trivial | refine And.intro ?_ ?_ | (show 0 + _ ≤ List.length _; simp))) zT.refl hR ?_; rintro _ rfl)) | ((change zn _ _ _ _ _; refine qn rfl (by repeat' (first | trivial | refine And.intro ?_ ?_ | (show 0 + _ ≤ List.length _; simp))) zT.refl hce ?_; rintro _ rfl)) | refine o1 ?_ | refine o2 ?_ | refine k1 ?_ | refine k2 ?_ | refine k3 ?_ | refine k4 ?_ | refine k6 ?_ | refine And.intro ?_ ?_ | (intro h; first | exact Bool.noConfusion h | exact nz _ h | exact nl h | (simp at h; done) | (simp at h; first | (exfalso; omega) | skip) | skip) | refine za ?_ | (change zn _ _ _ _ _; refine zA rfl (by repeat' (first | trivial | refine And.intro ?_ ?_ | (show 0 + _ ≤ List.length _; simp))) zT.refl (hv) rfl ?_) | (change zn _ _ _ _ _; refine zA rfl (by repeat' (first | trivial | refine And.intro ?_ ?_ | (show 0 + _ ≤ List.length _; simp))) zT.refl (hp) rfl ?_) | fail)
       refine zy (fun _ : Unit => [(8, .pv (.sl 1 [])), (39, zf .i64 (0 : Nat)), (40, zf .i64 (0 : Nat))]) (fun _ => []) (fun _ => True) (fun _ => 0) () trivial ?_ ?_
       · exact zG [] rfl rfl trivial (by repeat' (first | exact trivial | exact rfl | refine And.intro ?_ ?_))
       intro _ _
       repeat' (first | refine o1 ?_ | refine o2 ?_ | refine k1 ?_ | refine k2 ?_ | refine k3 ?_ | refine k7 ?_ | refine k8 ?_ | refine And.intro ?_ ?_ | (intro h; first | exact Bool.noConfusion h | exact nz _ h | exact nl h | (simp at h; done) | (simp at h; first | (exfalso; omega) | skip) | skip) | (change zz _ _ _ _; refine zd rfl trivial ?_) | fail)
       exact ⟨ALe.refl⟩
     have hcl : 0 < (p0 :: plan).length ∧ (p0 :: plan).length ≤ 100000 := ⟨by simp, by have := hpl.1; have := hz.1; omega⟩
     have e1 : znK m (p0 :: plan) = 0 := by unfold znK; rw [if_pos hok, zaM hpl]; rfl
     have e2 : znZ m (p0 :: plan) = (zf4 m (p0 :: plan) (xf m) (p0 :: plan).length).1 := by unfold znZ; rw [if_pos e1]; rfl
     rw [e1, e2]
     have hSl := zoh (m := m)
     generalize xf m = S at *
     generalize hpn : p0 :: plan = pl at *
     refine zh tok mixed 122 rfl (fn := Tryz.f19) (c := Tryz.f19.body.getD .skip) (by kernel_rfl) (by kernel_rfl) (by kernel_rfl) rfl 0 rfl ?_
     repeat' (first | ((change zn _ _ _ _ _; refine qn rfl (by repeat' (first | trivial | refine And.intro ?_ ?_ | (show 0 + _ ≤ List.length _; simp))) zT.refl hR ?_; rintro _ rfl)) | ((change zn _ _ _ _ _; refine zlA hcl ?_)) | refine o1 ?_ | refine o2 ?_ | refine k1 ?_ | refine k2 ?_ | refine k3 ?_ | refine k4 ?_ | refine k6 ?_ | refine And.intro ?_ ?_ | (intro h; first | exact Bool.noConfusion h | exact nz _ h | exact nl h | (simp at h; done) | (simp at h; first | (exfalso; omega) | skip) | skip) | refine za ?_ | (change zn _ _ _ _ _; refine zA rfl (by repeat' (first | trivial | refine And.intro ?_ ?_ | (show 0 + _ ≤ List.length _; simp))) zT.refl (hv) rfl ?_) | (change zn _ _ _ _ _; refine zA rfl (by repeat' (first | trivial | refine And.intro ?_ ?_ | (show 0 + _ ≤ List.length _; simp))) zT.refl (hp) rfl ?_) | fail)
     refine zy (fun c : Nat => [(2, .ptr 0 4 0 0), (7, .pv (.sl 1 (S.map qV))), (8, .ms 1 1 0 pl.length), (9, .mp 2), (10, .mp 3), (38, .pv (qN pl)), (39, zf .i64 pl.length), (40, zf .i64 c)])
      (fun c => [mdlO m, some ⟨3, 1, false, .p ((zf4 m pl S c).1.map zp)⟩, mapN 82 fTo (zf4 m pl S c).2, mapN 83 fTk (zf4 m pl S c).2])
      (fun c => c ≤ pl.length) (fun c => pl.length - c) 0 (Nat.zero_le _) ?_ ?_
     · exact zG [0, 1, 2, 3] rfl rfl ⟨rfl, rfl, rfl, rfl, trivial⟩ (by repeat' (first | exact trivial | exact rfl | refine And.intro ?_ ?_))
     intro c hc
     have hinv := zmW (m := m) (plan := pl) (S := S) hpl hc
     rcases Nat.lt_or_ge c pl.length with hcl2 | hcg
     · obtain ⟨o, ho⟩ := qd hcl2
       obtain ⟨l, hll⟩ := qd (l := m.classes) (i := c) (by have := hpl.1; omega)
       have hop := hpl.2 c hcl2 o l ho hll
       have hln := hz.2.1 l (List.mem_of_getElem? hll)
       have hcn := zg9 (S := S) ho hll
       generalize zf4 m pl S c = st0 at *
       obtain ⟨out, E⟩ := st0
       dsimp only at hinv hcn ⊢
       by_cases ho0 : o < 0
       · rw [if_pos ho0] at hcn
         repeat' (first | (refine zi (k := c) (zg ho) (by omega) ?_) | refine o1 ?_ | refine o2 ?_ | refine k1 ?_ | refine k2 ?_ | refine k3 ?_ | refine k4 ?_ | refine k6 ?_ | refine k8 ?_ | refine And.intro ?_ ?_ | (intro h; first | exact Bool.noConfusion h | exact nz _ h | exact nl h | (simp at h; done) | (simp at h; first | (exfalso; omega) | skip) | skip) | refine zc (by omega) (by omega) ?_ | fail)
         exact ⟨c + 1, by omega, by omega, (by rw [hcn]; exact zG [0, 1, 2, 3] rfl rfl ⟨rfl, rfl, qU rfl (qU rfl trivial)⟩ (by repeat' (first | exact trivial | exact rfl | refine And.intro ?_ ?_)))⟩
       obtain ⟨q, rfl⟩ : ∃ q : Nat, o = q := ⟨o.toNat, by omega⟩
       obtain ⟨op, hop2⟩ := qd (l := l) (i := q) (by omega)
       rw [if_neg ho0] at hcn
       dsimp only [mdlO]
       repeat' (first | (refine zi (k := c) (zg ho) (by omega) ?_) | (refine zi (k := c) (zg hll) (by omega) ?_) | (refine zi (k := q) (zg hop2) (by omega) ?_) | (refine zcz (a := .region 14 _ _) (fun _ => [(14, zf .i64 op.place.room), (15, .mp 4)]) (fun _ : Unit => [mdlO m, some ⟨3, 1, false, .p (out.map zp)⟩, mapN 82 fTo E, mapN 83 fTk E, zgM 85 (zbv l l.length)]) (fun _ => True) ?_) | ((show zS _ _ _ _ (.region 14 _ _) _ _ _; refine zg2 ?_)) | ((change zn _ _ _ _ _; refine zif (by omega) ?_)) | ((change ∃ x : Unit, _ ∧ _; exact ⟨(), trivial, zG [0, 1, 2, 3, 4] rfl rfl ⟨rfl, rfl, qU rfl (qU rfl (zcx rfl trivial))⟩ (by repeat' (first | exact trivial | exact rfl | exact ⟨_, rfl, ALe.refl⟩ | refine And.intro ?_ ?_))⟩)) | refine o1 ?_ | refine o2 ?_ | refine k1 ?_ | refine k2 ?_ | refine k3 ?_ | refine k4 ?_ | refine k6 ?_ | refine And.intro ?_ ?_ | exact trivial | refine o5 ?_ | refine o6 ?_ | (intro h; first | exact Bool.noConfusion h | exact nz _ h | exact nl h | (simp at h; done) | (simp at h; first | (exfalso; omega) | skip) | skip) | fail)
       refine ⟨?_⟩
       intro _ _
       have hcn : zf4 m pl S (c + 1) = zbT S l q op.place.room c (out, E) := by rw [hcn, Int.toNat_natCast, hop2]
       have hoc : out[c]? = some (q : Int) := by rw [hinv.2 c (Nat.le_refl _), ho]
       have hol : out.length = pl.length := hinv.1
       generalize op.place.room = r at *
       generalize hEg : zbv l l.length = G at *
       have hgt := get_to (E := E) (r := r)
       rcases hto : toF E r with _ | t
       · rw [hto] at hgt
         have hso := c_setOf S r (by omega) fun s hs => by have := hSl.2 s hs; omega
         have hcn1 : zf4 m pl S (c + 1) = (out.set c ((zhK S r).foldl (zaL E fun t => zfH (zaW l q t)) (-1, (q : Int))).2, if 0 ≤ ((zhK S r).foldl (zaL E fun t => zfH (zaW l q t)) (-1, (q : Int))).1 then E ++ [(r, ((zhK S r).foldl (zaL E fun t => zfH (zaW l q t)) (-1, (q : Int))).1)] else E) := by rw [hcn]; unfold zbT; dsimp only; rw [hto]
         have hql : (zhK S r).length ≤ 576 := setF_len hSl.2
         have hfree := zjP (E := E) (g := fun t => zfH (zaW l q t)) (l := zhK S r) (st := (-1, (q : Int))) (.inl (by show (-1 : Int) < 0; decide))
         generalize zhK S r = sq at *
         repeat' (first | (refine zw none hgt ?_) | ((change zn _ _ _ _ _; refine qn rfl (by repeat' (first | trivial | refine And.intro ?_ ?_ | (show 0 + _ ≤ List.length _; simp))) zT.refl hso ?_; rintro _ rfl)) | refine o1 ?_ | refine o2 ?_ | refine k1 ?_ | refine k2 ?_ | refine k3 ?_ | refine k4 ?_ | refine k6 ?_ | refine And.intro ?_ ?_ | (intro h; first | exact Bool.noConfusion h | exact nz _ h | exact nl h | (simp at h; done) | (simp at h; first | (exfalso; omega) | skip) | skip) | refine za ?_ | fail)
         refine zy (fun k : Nat => [(2, .ptr 0 4 0 0), (7, .pv (.sl 1 (S.map qV))), (8, .ms 1 1 0 pl.length), (9, .mp 2), (10, .mp 3), (38, .pv (qN pl)), (39, zf .i64 pl.length), (40, zf .i64 c), (11, zf .i64 c), (12, zf .i64 q), (13, .pv (.sl 6 (l.map Opt.row))), (14, zf .i64 r), (15, .mp 4), (18, zf .i64 ((sq.take k).foldl (zaL E fun t => zfH (zaW l q t)) (-1, (q : Int))).1), (80, .pv (.sl 1 (sq.map zp))), (81, zf .i64 sq.length), (82, zf .i64 k)])
          (fun k => [mdlO m, some ⟨3, 1, false, .p ((out.set c ((sq.take k).foldl (zaL E fun t => zfH (zaW l q t)) (-1, (q : Int))).2).map zp)⟩, mapN 82 fTo E, mapN 83 fTk E, zgM 85 G])
          (fun k => k ≤ sq.length) (fun k => sq.length - k) 0 (Nat.zero_le _) ?_ ?_
         · have h0 : out.set c ((sq.take 0).foldl (zaL E fun t => zfH (zaW l q t)) (-1, (q : Int))).2 = out := set_same hoc
           rw [h0]
           exact zG [0, 1, 2, 3, 4] rfl rfl ⟨rfl, rfl, qU rfl (qU rfl (zcx rfl trivial))⟩ (by repeat' (first | exact trivial | exact rfl | refine And.intro ?_ ?_))
         intro k hk
         rcases Nat.lt_or_ge k sq.length with hkl | hkg
         · obtain ⟨t, ht⟩ := qd hkl
           have hst : (sq.take (k + 1)).foldl (zaL E fun t => zfH (zaW l q t)) (-1, (q : Int)) = zaL E (fun t => zfH (zaW l q t)) ((sq.take k).foldl (zaL E fun t => zfH (zaW l q t)) (-1, (q : Int))) t := by rw [xN ht, List.foldl_append]; rfl
           generalize (sq.take k).foldl (zaL E fun t => zfH (zaW l q t)) (-1, (q : Int)) = st0 at *
           obtain ⟨b, x⟩ := st0
           dsimp only at hst ⊢
           have hgk := get_tk (E := E) (t := t)
           have hcx : (out.set c x)[c]? = some x := by rw [List.getElem?_set_self (by omega)]
           cases htk : zbj E t
           · rw [htk] at hgk
             have hgk : zfg (.int .i64 t) (zhl fTk 0 E) = none := hgk
             repeat' (first | (refine zi (k := k) (zg ht) (by omega) ?_) | (refine zw none hgk ?_) | ((change zn _ _ _ _ _; refine zah 4 hEg.symm rfl (by omega) (by omega) ?_; rw [zoX])) | (refine ⟨_, zg hcx, ?_⟩) | refine o1 ?_ | refine o2 ?_ | refine k1 ?_ | refine k2 ?_ | refine k3 ?_ | refine k4 ?_ | refine k6 ?_ | refine And.intro ?_ ?_ | (intro h; first | exact Bool.noConfusion h | exact nz _ h | exact nl h | (simp at h; done) | (simp at h; first | (exfalso; omega) | skip) | skip) | exact Nat.le_of_ble_eq_true rfl | refine z8 ?_ | refine zc (by omega) (by omega) ?_ | refine zw _ (ze3 rfl rfl) ?_ | refine xc _ (by first | rfl | assumption) (by first | assumption | omega) ?_ | fail)
             all_goals first
              | (exfalso; omega)
              | (refine ⟨k + 1, by omega, by omega, ?_⟩
                 rw [hst, zjQ htk (by show b < 0 ∨ zfH (zaW l q t) < x; omega), List.set_set]
                 exact zG [0, 1, 2, 3, 4] rfl rfl ⟨rfl, rfl, qU rfl (qU rfl (zcx rfl trivial))⟩ (by repeat' (first | exact trivial | exact rfl | refine And.intro ?_ ?_)))
              | (refine ⟨k + 1, by omega, by omega, ?_⟩
                 rw [hst, zhP htk (by show ¬ (b < 0 ∨ zfH (zaW l q t) < x); omega)]
                 exact zG [0, 1, 2, 3, 4] rfl rfl ⟨rfl, rfl, qU rfl (qU rfl (zcx rfl trivial))⟩ (by repeat' (first | exact trivial | exact rfl | refine And.intro ?_ ?_)))
           · rw [htk] at hgk
             have hgk : zfg (.int .i64 t) (zhl fTk 0 E) = some (zm true) := hgk
             rw [zlc htk] at hst
             repeat' (first | (refine zi (k := k) (zg ht) (by omega) ?_) | (refine zw _ hgk ?_) | refine o1 ?_ | refine o2 ?_ | refine k1 ?_ | refine k2 ?_ | refine k3 ?_ | refine k4 ?_ | refine k6 ?_ | refine k8 ?_ | refine And.intro ?_ ?_ | (intro h; first | exact Bool.noConfusion h | exact nz _ h | exact nl h | (simp at h; done) | (simp at h; first | (exfalso; omega) | skip) | skip) | refine zc (by omega) (by omega) ?_ | fail)
             all_goals first
              | (exfalso; omega)
              | exact ⟨k + 1, by omega, by omega, (by rw [hst]; exact zG [0, 1, 2, 3, 4] rfl rfl ⟨rfl, rfl, qU rfl (qU rfl (zcx rfl trivial))⟩ (by repeat' (first | exact trivial | exact rfl | refine And.intro ?_ ?_)))⟩
         · obtain rfl : k = sq.length := by omega
           rw [List.take_length]
           generalize sq.foldl (zaL E fun t => zfH (zaW l q t)) (-1, (q : Int)) = st0 at *
           obtain ⟨b, x⟩ := st0
           dsimp only at hcn1 hfree ⊢
           by_cases hb0 : 0 ≤ b
           · rw [if_pos hb0] at hcn1
             have htk : zbj E b = false := hfree.elim (fun h => by omega) id
             have hp1 := put_to (b := b) hto
             have hp2 := put_tk (r := r) htk
             have hc1 := ck_to (b := b) hto
             have hc2 := ck_tk (r := r) htk
             repeat' (first | (refine zw _ hp1 ?_) | (refine zw _ hp2 ?_) | (refine zw _ hc1 ?_) | (refine zw _ hc2 ?_) | refine o1 ?_ | refine o2 ?_ | refine k1 ?_ | refine k2 ?_ | refine k3 ?_ | refine k8 ?_ | refine And.intro ?_ ?_ | (intro h; first | exact Bool.noConfusion h | exact nz _ h | exact nl h | (simp at h; done) | (simp at h; first | (exfalso; omega) | skip) | skip) | refine zc (by omega) (by omega) ?_ | fail)
             all_goals first
              | (exfalso; omega)
              | exact ⟨c + 1, by omega, by omega, (by rw [hcn1]; exact zG [0, 1, 2, 3] rfl rfl ⟨rfl, rfl, qU rfl (qU rfl trivial)⟩ (by repeat' (first | exact trivial | exact rfl | refine And.intro ?_ ?_)))⟩
           · rw [if_neg hb0] at hcn1
             repeat' (first | refine o1 ?_ | refine o2 ?_ | refine k1 ?_ | refine k2 ?_ | refine k3 ?_ | refine k6 ?_ | refine k8 ?_ | refine And.intro ?_ ?_ | (intro h; first | exact Bool.noConfusion h | exact nz _ h | exact nl h | (simp at h; done) | (simp at h; first | (exfalso; omega) | skip) | skip) | refine zc (by omega) (by omega) ?_ | fail)
             all_goals first
              | (exfalso; omega)
              | exact ⟨c + 1, by omega, by omega, (by rw [hcn1]; exact zG [0, 1, 2, 3] rfl rfl ⟨rfl, rfl, qU rfl (qU rfl trivial)⟩ (by repeat' (first | exact trivial | exact rfl | refine And.intro ?_ ?_)))⟩
       · rw [hto] at hgt
         have hcn1 : zf4 m pl S (c + 1) = (out.set c (zfH (zaW l q t)), E) := by rw [hcn]; unfold zbT; dsimp only; rw [hto]
         repeat' (first | (refine zw _ hgt ?_) | ((change zn _ _ _ _ _; refine zah 4 hEg.symm rfl (by omega) (by omega) ?_; rw [zoX])) | refine o1 ?_ | refine o2 ?_ | refine k1 ?_ | refine k2 ?_ | refine k3 ?_ | refine k8 ?_ | refine And.intro ?_ ?_ | (intro h; first | exact Bool.noConfusion h | exact nz _ h | exact nl h | (simp at h; done) | (simp at h; first | (exfalso; omega) | skip) | skip) | exact Nat.le_of_ble_eq_true rfl | refine z8 ?_ | refine zc (by omega) (by omega) ?_ | refine zw _ (ze3 rfl rfl) ?_ | refine ⟨_, zg (by assumption), ?_⟩ | refine xc _ (by first | rfl | assumption) (by first | assumption | omega) ?_ | fail)
         all_goals first
          | exact ⟨c + 1, by omega, by omega, (by rw [hcn1]; exact zG [0, 1, 2, 3] rfl rfl ⟨rfl, rfl, qU rfl (qU rfl trivial)⟩ (by repeat' (first | exact trivial | exact rfl | refine And.intro ?_ ?_)))⟩
     · obtain rfl : c = pl.length := by omega
       obtain ⟨hol, _⟩ := hinv
       generalize (zf4 m pl S pl.length) = st0 at *
       obtain ⟨out, E⟩ := st0
       dsimp only at hol ⊢
       dsimp only [mdlO]
       repeat' (first | refine o1 ?_ | refine o2 ?_ | refine k1 ?_ | refine k2 ?_ | refine k3 ?_ | refine k7 ?_ | refine k8 ?_ | refine And.intro ?_ ?_ | (intro h; first | exact Bool.noConfusion h | exact nz _ h | exact nl h | (simp at h; done) | (simp at h; first | (exfalso; omega) | skip) | skip) | fail)
       refine zd (r0 := .tup [.pv (.sl 1 (((out.map zp).drop 0).take pl.length)), zf .i64 0]) rfl ?_ ?_
       · refine ⟨?_, trivial⟩
         show 0 + pl.length ≤ _
         rw [List.length_map]; omega
       · rw [List.drop_zero, List.take_of_length_le (by rw [List.length_map]; omega)]
         exact ⟨ALe.refl⟩
   · rw [zad hpl] at hp
     have e1 : znK m plan = 17 := by unfold znK; rw [if_pos hok, zad hpl]; rfl
     have e2 : znZ m plan = [] := by unfold znZ; rw [if_neg (by rw [e1]; decide)]
     rw [e1, e2]
     refine zh tok mixed 122 rfl (fn := Tryz.f19) (c := Tryz.f19.body.getD .skip) (by kernel_rfl) (by kernel_rfl) (by kernel_rfl) rfl 0 rfl ?_
     repeat' (first | refine o1 ?_ | refine o2 ?_ | refine k1 ?_ | refine k2 ?_ | refine k3 ?_ | refine k6 ?_ | refine k7 ?_ | refine And.intro ?_ ?_ | (intro h; first | exact Bool.noConfusion h | exact nz _ h | exact nl h | (simp at h; done) | (simp at h; first | (exfalso; omega) | skip) | skip) | (change zz _ _ _ _; refine zd rfl trivial ?_) | (change zn _ _ _ _ _; refine zA rfl (by repeat' (first | trivial | refine And.intro ?_ ?_ | (show 0 + _ ≤ List.length _; simp))) zT.refl (hv) rfl ?_) | (change zn _ _ _ _ _; refine zA rfl (by repeat' (first | trivial | refine And.intro ?_ ?_ | (show 0 + _ ≤ List.length _; simp))) zT.refl (hp) rfl ?_) | fail)
     exact ⟨ALe.tup ⟨ALe.pv PLe.nil, ALe.refl, trivial⟩⟩
 · have e1 : znK m plan = qo m := by unfold znK; rw [if_neg hok]
   have e2 : znZ m plan = [] := by unfold znZ; rw [if_neg (by rw [e1]; exact hok)]
   rw [e1, e2]
   refine zh tok mixed 122 rfl (fn := Tryz.f19) (c := Tryz.f19.body.getD .skip) (by kernel_rfl) (by kernel_rfl) (by kernel_rfl) rfl 0 rfl ?_
   repeat' (first | refine o1 ?_ | refine o2 ?_ | refine k1 ?_ | refine k2 ?_ | refine k3 ?_ | refine k7 ?_ | refine And.intro ?_ ?_ | (intro h; first | exact Bool.noConfusion h | exact nz _ h | exact nl h | (simp at h; done) | (simp at h; first | (exfalso; omega) | skip) | skip) | (change zz _ _ _ _; refine zd rfl trivial ?_) | (change zn _ _ _ _ _; refine zA rfl (by repeat' (first | trivial | refine And.intro ?_ ?_ | (show 0 + _ ≤ List.length _; simp))) zT.refl (hv) rfl ?_) | fail)
   all_goals first
    | (exfalso; omega)
    | exact ⟨ALe.tup ⟨ALe.pv PLe.nil, ALe.refl, trivial⟩⟩
theorem c_canon (m : Model) (plan : List Int) (hl : Laid m) : zF Tryz.prog 19 [ag m.cells, .pv (qN plan)] (fun r => r = .tup [.pv (.sl 1 ((znZ m plan).map zp)), zf .i64 (znK m plan)]) := (c_canon0 m plan hl).weak fun r k => ⟨_, k.le, rfl⟩
end Go.Proofs.YtihpjcmloecaaaaGreat.Cw
namespace Go.Proofs.YtihpjcmloecaaaaGreat.Cw
open Go Go.Cw Go.Proofs
set_option linter.unusedVariables false
theorem zo9 {r a b : Int} : zfz r a b = zfz r b a := by
 unfold zfz
 split
 · split
   · omega
   · rfl
 · split <;> rfl
theorem zhE {l : List Opt} {a b : Int} {i : Nat} : zcZ l a b i = zcZ l b a i := by
 unfold zcZ
 cases l[i]? with
 | none => rfl
 | some o => simp only [zo9]
theorem zi0 {l : List Opt} {a b : Int} {i : Nat} : imN l a b i = imN l b a i := by unfold imN; rw [zhE]
theorem ze1 {m : Model} {a b : Int} (h : zbt m a b) : zbt m b a := by
 obtain ⟨h1, h2, h3⟩ := h
 refine ⟨fun l hl i hi => ?_, fun p hp x y hx hy i hi k hk => ?_, ?_⟩
 · obtain ⟨j, o, q, g⟩ := h1 l hl i hi
   exact ⟨j, o, q, by rw [← zhE]; exact g.1, g.2⟩
 · rw [← zi0, ← zi0 (l := y)]; exact h2 p hp x y hx hy i hi k hk
 · unfold zg4 at *
   rw [h3]
   congr 1
   funext l
   unfold zM
   cases m.classes[l.cls.toNat]? with
   | none => rfl
   | some x => simp only [zi0]
structure SetsOk (m : Model) (l : List Int) (S : List (List Int)) : Prop where
 sub : ∀ s ∈ S, ∀ x ∈ s, x ∈ l
 nd : ∀ s ∈ S, s.Nodup
 dis : S.Pairwise fun s t => ∀ x ∈ s, x ∉ t
 sw : ∀ s ∈ S, ∀ x ∈ s, ∀ y ∈ s, x ≠ y → zbt m x y
theorem zog {m : Model} (hz : qD m) (hg : zdM m) : ∀ {n : Nat} {l : List Int}, l.Nodup → SetsOk m l (zai m n l)
 | 0, l, _ => ⟨fun s h => absurd h List.not_mem_nil, fun s h => absurd h List.not_mem_nil, List.Pairwise.nil, fun s h => absurd h List.not_mem_nil⟩
 | n + 1, [], _ => ⟨fun s h => absurd h List.not_mem_nil, fun s h => absurd h List.not_mem_nil, List.Pairwise.nil, fun s h => absurd h List.not_mem_nil⟩
 | n + 1, x :: l, hnd => by
   obtain ⟨hx, hl⟩ := List.nodup_cons.1 hnd
   have ih := zog hz hg (n := n) (l := l.filter fun b => !swB m x b) (List.Pairwise.filter _ hl)
   have hset : SetsOk m (x :: l) [x :: l.filter (swB m x)] := by
    refine ⟨fun s h y hy => ?_, fun s h => ?_, List.pairwise_singleton .., fun s h y hy z hz' hne => ?_⟩
    · obtain rfl := List.mem_singleton.1 h
      rcases List.mem_cons.1 hy with rfl | hy
      · exact List.mem_cons_self ..
      · exact List.mem_cons_of_mem _ (List.mem_filter.1 hy).1
    · obtain rfl := List.mem_singleton.1 h
      exact List.nodup_cons.2 ⟨fun h => hx (List.mem_filter.1 h).1, List.Pairwise.filter _ hl⟩
    · obtain rfl := List.mem_singleton.1 h
      rcases List.mem_cons.1 hy with rfl | hy
      · rcases List.mem_cons.1 hz' with rfl | hz'
        · exact absurd rfl hne
        · exact zhF.1 (List.mem_filter.1 hz').2
      · have h1 := zhF.1 (List.mem_filter.1 hy).2
        rcases List.mem_cons.1 hz' with rfl | hz'
        · exact ze1 h1
        · have h2 := zhF.1 (List.mem_filter.1 hz').2
          have n1 : y ≠ x := fun e => hx (e ▸ (List.mem_filter.1 hy).1)
          have n2 : z ≠ x := fun e => hx (e ▸ (List.mem_filter.1 hz').1)
          exact zhD hz hg hne n1 n2 (ze1 h1) (ze1 h2)
   unfold zai
   split
   · refine ⟨fun s h y hy => ?_, ih.nd, ih.dis, ih.sw⟩
     exact List.mem_cons_of_mem _ (List.mem_filter.1 (ih.sub s h y hy)).1
   · refine ⟨fun s h y hy => ?_, fun s h => ?_, ?_, fun s h => ?_⟩
     · rcases List.mem_append.1 h with h | h
       · exact hset.sub s h y hy
       · exact List.mem_cons_of_mem _ (List.mem_filter.1 (ih.sub s h y hy)).1
     · rcases List.mem_append.1 h with h | h
       · exact hset.nd s h
       · exact ih.nd s h
     · refine List.pairwise_append.2 ⟨hset.dis, ih.dis, fun s h t ht y hy hyt => ?_⟩
       obtain rfl := List.mem_singleton.1 h
       have h2 := List.mem_filter.1 (ih.sub t ht y hyt)
       rcases List.mem_cons.1 hy with rfl | hy
       · exact hx h2.1
       · have := (List.mem_filter.1 hy).2
         rw [this] at h2; simp at h2
     · rcases List.mem_append.1 h with h | h
       · exact hset.sw s h
       · exact ih.sw s h
theorem setsV_ok {m : Model} (hok : qo m = 0) : SetsOk m (zQ m) (xf m) := by
 unfold xf
 rw [if_pos hok]
 exact zog (qH hok) (zae hok) ((xi m).2.imp fun h => by omega)
end Go.Proofs.YtihpjcmloecaaaaGreat.Cw
namespace Go.Proofs.YtihpjcmloecaaaaGreat.Cw
open Go Go.Cw Go.Proofs
set_option linter.unusedVariables false
set_option maxRecDepth 100000
set_option maxHeartbeats 8000000
def zhw : Int := 1099511627776
noncomputable def inS (s : List Int) (o : Opt) : Bool := pB (o.place.room ∈ s)
noncomputable def hitS (s : List Int) (o : Opt) : Bool := inS s o && pB (o.place.room ≠ s.headD 0)
noncomputable def zdS (R : Int) (s : List Int) (o : Opt) : Opt := if hitS s o then ⟨o.place, o.charges ++ [⟨R, zhw⟩]⟩ else o
noncomputable def zlN (R : Int) (s : List Int) : List (List Opt) → List (List Opt)
 | [] => []
 | l :: L => if l.any (inS s) then l.map (zdS R s) :: L else l :: zlN R s L
noncomputable def zfJ (R : Int) (S : List (List Int)) (L : List (List Opt)) : List (List Opt) := S.foldl (fun L s => zlN R s L) L
noncomputable def brkM (m : Model) : Model := ⟨zfJ m.rules (xf m) m.classes, m.pairs, m.counts, m.rules + 1⟩
section
variable {R : Int} {s : List Int} {L A B : List (List Opt)} {l : List Opt} {o : Opt}
theorem znW : (zdS R s o).place = o.place := by unfold zdS; split <;> rfl
theorem zpV (hA : ∀ x ∈ A, x.any (inS s) = false) (hl : l.any (inS s) = true) : zlN R s (A ++ l :: B) = A ++ l.map (zdS R s) :: B := by
 induction A with
 | nil => simp [zlN, hl]
 | cons a A ih =>
   simp only [List.cons_append, zlN, hA a (by simp)]
   rw [ih fun x hx => hA x (by simp [hx])]
   rfl
theorem brkC_len : (zlN R s L).length = L.length := by
 induction L with
 | nil => rfl
 | cons l L ih => simp only [zlN]; split <;> simp [ih]
theorem zeP : ∀ {S : List (List Int)} {L : List (List Opt)}, (zfJ R S L).length = L.length
 | [], _ => rfl
 | s :: S, L => (zeP (S := S)).trans brkC_len
def zhj (l : List Opt) : List Placed := l.map fun o => o.place
theorem brkC_plc : (zlN R s L).map zhj = L.map zhj := by
 induction L with
 | nil => rfl
 | cons l L ih =>
   simp only [zlN]
   split
   · simp only [List.map_cons]
     congr 1
     unfold zhj
     rw [List.map_map]
     exact List.map_congr_left fun o _ => znW
   · simp only [List.map_cons, ih]
theorem zf5 : ∀ {S : List (List Int)} {L : List (List Opt)}, (zfJ R S L).map zhj = L.map zhj
 | [], _ => rfl
 | s :: S, L => (zf5 (S := S)).trans brkC_plc
end
section
variable {H XT : zq} {A B : List (List Opt)} {l : List Opt} {y z : Option AObj} {d F n q x i j : Nat} {rn fx : List Nat}
theorem zeB (hn : XT.length = n) (hq : q < n) (hinv : (XT.set q y).map (qx d rn) = XT.set q y) (hX : ∀ (t : Nat) (o : AObj), t ≠ q → XT[t]? = some (some o) → H[t + F]? = some (some o)) (hy : y = none ∨ H[x]? = some y) :
 zat H d rn ((List.range' F n).set q x) (XT.set q y) := by
 refine zdC (by rw [List.length_set, List.length_set, List.length_range', hn]) fun t k hk o ho => ?_
 rw [hinv] at ho
 rw [zaC] at hk
 have ht : t < n := by
  have := (List.getElem?_eq_some_iff.1 ho).1
  rwa [List.length_set, hn] at this
 rw [if_pos ht] at hk
 injection hk with hk
 rw [List.getElem?_set] at ho
 by_cases e : q = t
 · subst e
   rw [if_pos rfl, if_pos (by rw [hn]; exact hq)] at ho
   injection ho with ho
   subst ho
   rcases hy with h | h
   · cases h
   · rw [← hk, if_pos rfl]; exact h
 · rw [if_neg e] at ho
   rw [← hk, if_neg e]
   exact hX t o (fun h => e h.symm) ho
def mid (A : List (List Opt)) (cs : zq) (y : Option AObj) (B : List (List Opt)) (n : Nat) : zq := zW (shF 10) 0 A ++ (cs ++ y :: zW (shF 10) (nT A + n + 1) B)
theorem mid_of : zW (shF 10) 0 (A ++ l :: B) = mid A (zag l) (zhk (shF 10) (nT A) l) B l.length := by
 rw [zcX]; simp [zW, mid]
theorem ziO {cs : zq} (h : cs.length = l.length) : (mid A cs y B l.length).length = nT (A ++ l :: B) := by
 unfold mid
 simp only [List.length_append, List.length_cons, qg, h, zfu, nT]; omega
theorem zfW {cs : zq} (h : cs.length = l.length) : (mid A cs y B l.length).set (nT A + l.length) z = mid A cs z B l.length := by
 unfold mid
 rw [List.set_append_right _ _ (by rw [qg]; omega), qg, Nat.add_sub_cancel_left, List.set_append_right _ _ (by omega), h, Nat.sub_self]
 rfl
theorem zfX {cs : zq} (h : cs.length = l.length) (hi : i < l.length) : (mid A cs y B l.length).set (nT A + i) z = mid A (cs.set i z) y B l.length := by
 unfold mid
 rw [List.set_append_right _ _ (by rw [qg]; omega), qg, Nat.add_sub_cancel_left, List.set_append_left _ _ (by omega)]
def FixA (rn : List Nat) (d : Nat) (A : List (List Opt)) (l : List Opt) (B : List (List Opt)) : Prop := ∀ t, t < nT (A ++ l :: B) → t < nT A ∨ nT A + l.length < t → rn.getD (t + 10) d = t + 10
theorem ziP (hf : FixA rn d A l B) {cs : zq} (hc : cs.map (qx d rn) = cs) (hy : qx d rn y = y) : (mid A cs y B l.length).map (qx d rn) = mid A cs y B l.length := by
 have hn : nT (A ++ l :: B) = nT A + (l.length + 1 + nT B) := by rw [zfu]; rfl
 unfold mid
 rw [List.map_append, List.map_append, List.map_cons, hc, hy, zaj, zaj, xt (g := fun q => rn.getD (shF 10 q) d) (g' := shF 10) fun q _ h2 => hf q (by omega) (.inl (by omega)), xt (g := fun q => rn.getD (shF 10 q) d) (g' := shF 10) fun q h1 h2 => hf q (by omega) (.inr (by omega))]
theorem zjb {g : Nat → Nat} : qp g 0 (A ++ l :: B) = qp g 0 A ++ [zmU g (nT A) l] :: qp g (nT A + l.length + 1) B := by
 rw [zf3, Nat.zero_add]; rfl
theorem zjc {z : List AV} (hf : FixA rn d A l B) : (qp (shF 10) 0 A ++ z :: qp (shF 10) (nT A + l.length + 1) B).map (xY d rn) = qp (shF 10) 0 A ++ xY d rn z :: qp (shF 10) (nT A + l.length + 1) B := by
 have hn : nT (A ++ l :: B) = nT A + (l.length + 1 + nT B) := by rw [zfu]; rfl
 rw [List.map_append, List.map_cons, zaE, zaE, xx (g := fun q => rn.getD (shF 10 q) d) (g' := shF 10) fun q _ h2 => hf q (by omega) (.inl (by omega)), xx (g := fun q => rn.getD (shF 10 q) d) (g' := shF 10) fun q h1 h2 => hf q (by omega) (.inr (by omega))]
theorem zeJ (hF : fx.length = 10) (h1 : nT A ≤ q) (h2 : q ≤ nT A + l.length) : FixA (fx ++ (List.range' 10 (nT (A ++ l :: B))).set q x) d A l B := fun t ht h => by
 rw [zgu hF ht, if_neg (by omega)]
theorem optO_inv (h : ∀ t, nT A ≤ t → t < nT A + l.length → rn.getD (t + 10) d = t + 10) : qx d rn (zhk (shF 10) (nT A) l) = zhk (shF 10) (nT A) l := by
 rw [zfU]
 unfold zhk
 rw [q8 (g := fun q => rn.getD (shF 10 q) d) (g' := shF 10) fun q h1 h2 => h q h1 h2]
end
end Go.Proofs.YtihpjcmloecaaaaGreat.Cw
namespace Go.Proofs.YtihpjcmloecaaaaGreat.Cw
open Go Go.Cw Go.Proofs
set_option linter.unusedVariables false
set_option maxRecDepth 100000
set_option maxHeartbeats 30000000
theorem zi4 {k m id z : Nat} {rows : List (List PV)} (h : id < k ∨ k + m ≤ id) : far k m (slP id z rows) = true := by
 cases rows with
 | nil => rfl
 | cons a l => simp [slP, far]; exact h
theorem zbD {k m : Nat} : ∀ {l : List PV}, xV k m (pvs l) = true
 | [] => rfl
 | p :: l => by simp [pvs, xV, far, zbD (l := l)]
theorem znX {n : Nat} {m : Model} {A : List (List Opt)} {l : List Opt} {R : List (List AV)} {x5 x7 : Option AObj} {Γ' G0 : zr} (hR : qp (shF 8) 0 A = R)
 (hG : ∀ d rest, qT d (0 :: 1 :: 2 :: rest) Γ' G0) :
 zC n 0 Γ' (zdT m :: zfi :: zdt (.ms 6 1 0 (R.length + 1)) qj qj m.rules :: none :: obM 62 6 (zZ (shF 8) (nT A) l) :: x5 :: some ⟨51, 1, false, .m (R ++ [[slC 4 6 (zZ (shF 8) (nT A) l)]])⟩ :: x7 :: (zW (shF 8) 0 A ++ zag l)) G0 (hpO m (A ++ [l]) none) := by
 have hN : nT (A ++ [l]) = nT A + l.length + 1 := zoF
 have hg : ∀ {d : Nat} q, q ≤ nT A + l.length → ([0, 1, 2, 6, 3, 5, 7, 8 + (nT A + l.length)] ++ (List.range' 8 (nT A + l.length) ++ [4])).getD (shF 8 q) d = if q = nT A + l.length then 4 else shF 8 q := fun q hq => zgv (by rfl) hq
 have hcl : ∀ d, (qp (shF 8) 0 (A ++ [l])).map (xY d ([0, 1, 2, 6, 3, 5, 7, 8 + (nT A + l.length)] ++ (List.range' 8 (nT A + l.length) ++ [4]))) = R ++ [[slC 4 6 (zZ (shF 8) (nT A) l)]] := fun d => by
  rw [zaE, zf3]
  congr 1
  · rw [← hR]
    exact xx fun q _ h2 => by rw [hg q (by omega), if_neg (by omega)]
  · simp only [qp, Nat.zero_add]
    congr 2
    cases l with
    | nil => rfl
    | cons o t =>
      simp only [zmU]
      rw [show t.length + 1 = (o :: t).length from rfl, hg _ (Nat.le_refl _), if_pos rfl, zc0 (by rw [qI]; simp), qI]
 have hY : zW (shF 8) 0 (A ++ [l]) = (zW (shF 8) 0 A ++ zag l) ++ [zhk (shF 8) (nT A) l] := by
  rw [zcX]; simp [zW]
 have hYr : ∀ d, (zW (shF 8) 0 (A ++ [l])).map (qx d ([0, 1, 2, 6, 3, 5, 7, 8 + (nT A + l.length)] ++ (List.range' 8 (nT A + l.length) ++ [4]))) = (zW (shF 8) 0 A ++ zag l) ++ [zhk (shF 8) (nT A) l] := fun d => by
  rw [hY, List.map_append, List.map_append, za9, zaj, xt (g' := shF 8) fun q _ h2 => by rw [hg q (by omega), if_neg (by omega)]]
  simp only [List.map_cons, List.map_nil, zfU]
  unfold zhk
  rw [q8 (g' := shF 8) fun q _ h2 => by rw [hg q (by omega), if_neg (by omega)]]
 refine zG ([0, 1, 2, 6, 3, 5, 7, 8 + (nT A + l.length)] ++ (List.range' 8 (nT A + l.length) ++ [4])) (ziD ?_ ?_) rfl ?_ (hG _ _)
 · apply zcK
   simp
   omega
 · intro a ha
   simp at ha
   omega
 · show zat _ _ _ (0 :: 1 :: 2 :: 6 :: 3 :: 5 :: 7 :: (8 + (nT A + l.length)) :: (List.range' 8 (nT A + l.length) ++ [4])) _
   refine ⟨rfl, rfl, qJ rfl ?_ rfl rfl (xg (rows' := R ++ [[slC 4 6 (zZ (shF 8) (nT A) l)]]) ?_ (hcl _) ?_)⟩
   · rw [xP, hcl, ziy]; rfl
   · rw [ziJ]; rfl
   · show zat _ _ _ (List.range' 8 (nT A + l.length) ++ [4]) (zW (shF 8) 0 (A ++ [l]))
     refine zdC ?_ fun q i hq o ho => ?_
     · rw [qg, hN, List.length_append, List.length_range']; rfl
     · rw [hYr] at ho
       have hlen : (zW (shF 8) 0 A ++ zag l).length = nT A + l.length := by rw [List.length_append, qg, qu]
       rcases Nat.lt_or_ge q (nT A + l.length) with h | h
       · rw [List.getElem?_append_left (by rw [List.length_range']; exact h), List.getElem?_range' h, Nat.one_mul] at hq
         injection hq with hq
         subst hq
         rw [List.getElem?_append_left (by rw [hlen]; exact h)] at ho
         rw [show 8 + q = q + 8 from Nat.add_comm _ _]
         exact ho
       · rw [List.getElem?_append_right (by rw [List.length_range']; exact h), List.length_range'] at hq
         rw [List.getElem?_append_right (by rw [hlen]; exact h), hlen] at ho
         obtain ⟨rfl⟩ : q = nT A + l.length := by
          rcases Nat.lt_or_ge (q - (nT A + l.length)) 1 with h3 | h3
          · omega
          · rw [List.getElem?_eq_none (by simpa using h3)] at hq; cases hq
         rw [Nat.sub_self] at hq ho
         obtain rfl : 4 = i := by simpa using hq
         exact (Option.some.inj ho) ▸ rfl
theorem c_twin (m : Model) (h1 : m.classes.length ≤ 1000) (h2 : ∀ l ∈ m.classes, l.length ≤ 1000) (h3 : ∀ l ∈ m.classes, ∀ o ∈ l, o.charges.length ≤ 1000) (h4 : m.pairs.length ≤ 100000) (h5 : ∀ p ∈ m.pairs, p.table.length ≤ 100000) (h6 : m.counts.length ≤ 1000) (h7 : ∀ c ∈ m.counts, c.loads.length ≤ 100000) :
 qb Tryz.prog 50 [ag m.cells] [] (fun r H' => r = .agg [slC 0 1 (qp (shF 1) 0 m.classes), .pv (.sl 4 (m.pairs.map Pair.row)), .pv (.sl 4 (m.counts.map Count.row)), .pv (ei m.rules)] ∧ H' = obM 51 1 (qp (shF 1) 0 m.classes) :: zW (shF 1) 0 m.classes) := by
 obtain ⟨MC, MP, CC, MR⟩ := m
 dsimp only at h1 h2 h3 h4 h5 h6 h7 ⊢
 refine zh tok mixed 83 rfl (fn := Tryz.f50) (c := Tryz.f50.body.getD .skip) (by kernel_rfl) (by kernel_rfl) (by kernel_rfl) rfl 0 rfl ?_
 repeat' (first | refine o1 ?_ | refine o2 ?_ | refine k1 ?_ | refine k2 ?_ | refine k4 ?_ | refine And.intro ?_ ?_ | exact (by kernel_rfl : zl _ _ = true) | refine za ?_ | fail)
 refine zy (fun k : Nat => [(1, .ptr 0 4 0 0), (2, .ptr 1 4 0 0), (3, .ptr 2 4 0 0), (17, .pv (.sl 1 (MC.map zx))), (18, zf .i64 MC.length), (19, zf .i64 k)]) (fun k => hpO ⟨MC, MP, CC, MR⟩ (MC.take k) none) (fun k => k ≤ MC.length) (fun k => MC.length - k) 0 (Nat.zero_le _) ?_ ?_
 · refine zC.trans (zC.shut (i := 2) (c := 0) (x := qj) (y := qj) (y' := .clip 1 []) rfl rfl rfl True.intro (by simp [zbs, zmx, zaQ, qj]) (zex 1)) ?_
   exact zG [0, 1, 2, 3, 4, 5, 6, 7] rfl rfl (by repeat' (first | exact trivial | exact rfl | refine And.intro ?_ ?_)) (by repeat' (first | exact trivial | exact rfl | refine And.intro ?_ ?_))
 intro k hk
 dsimp only [hpO]
 rcases Nat.lt_or_ge k MC.length with hlt | hge
 · obtain ⟨l, hl⟩ := qd hlt
   have hll := h2 l (List.mem_of_getElem? hl)
   have hlc := h3 l (List.mem_of_getElem? hl)
   have hAl : MC.take (k + 1) = MC.take k ++ [l] := by rw [List.take_succ, hl]; rfl
   have hAk : (MC.take k).length = k := by rw [List.length_take]; omega
   generalize MC.take k = A at *
   generalize hT : zW (shF 8) 0 A = T at *
   generalize hR : qp (shF 8) 0 A = R at *
   refine zo ?_
   repeat' (first | refine o1 ?_ | refine o2 ?_ | refine k1 ?_ | refine k2 ?_ | refine k3 ?_ | refine k4 ?_ | refine k6 ?_ | refine And.intro ?_ ?_ | (intro h; first | exact Bool.noConfusion h | exact nz _ h | exact nl h | (simp at h; done) | (simp at h; first | (exfalso; omega) | skip) | skip) | refine za ?_ | refine ⟨_, _, (by first | rfl | assumption), zg (by assumption), ?_⟩ | fail)
   refine zy (fun i : Nat => [(1, .ptr 0 4 0 0), (2, .ptr 1 4 0 0), (3, .ptr 2 4 0 0), (17, .pv (.sl 1 (MC.map zx))), (18, zf .i64 MC.length), (19, zf .i64 k), (23, .pv (.sl 6 (l.map Opt.row))), (24, zf .i64 l.length), (25, zf .i64 i), (6, slC 4 6 (zZ (shF 8) (nT A) (l.take i)))]) (fun i => zdT ⟨MC, MP, CC, MR⟩ :: zfi :: zdt (slC 3 1 R) qj qj MR :: obM 51 1 R :: obM 62 6 (zZ (shF 8) (nT A) (l.take i)) :: none :: none :: none :: (T ++ zag (l.take i))) (fun i => i ≤ l.length) (fun i => l.length - i) 0 (Nat.zero_le _) ?_ ?_
   · refine zC.trans (zC.weak (s := 6) (x := qj) (y := .clip 6 []) rfl (zex 6)) ?_
     refine zG ([0, 1, 2, 3, 4, 5, 6, 7] ++ List.range' 8 (nT A)) (za4 rfl (by decide)) rfl ?_ (by repeat' (first | exact trivial | exact rfl | refine And.intro ?_ ?_))
     show zat _ _ _ (0 :: 1 :: 2 :: 3 :: 4 :: 5 :: 6 :: 7 :: List.range' 8 (nT A)) _
     refine ⟨rfl, rfl, qJ rfl ?_ rfl rfl (xg rfl ?_ (zfx rfl ?_ ?_ ?_))⟩
     · rw [xP, ← hR, zec (F := 8) (by rfl) (Nat.le_refl _)]; rfl
     · rw [← hR, zec (F := 8) (by rfl) (Nat.le_refl _)]
     · rw [List.length_append, ← hT, qg]; rfl
     · rw [List.map_append, ← hT, zfO (F := 8) (by rfl) (Nat.le_refl _)]; rfl
     · intro q o ho
       exact (congrArg (·[q]?) (List.append_nil T)).symm.trans ho
   intro i hi
   rcases Nat.lt_or_ge i l.length with hlt2 | hge2
   · obtain ⟨o, ho⟩ := qd hlt2
     have hoc := hlc o (List.mem_of_getElem? ho)
     have hfT : ∀ k m, k + m ≤ 8 → zcf k m 8 (T ++ zag (l.take i)) := fun k m h => by
      rw [← hT]
      exact za6 (zak (fun q => by show k + m ≤ q + 8; omega) h) (zdF (by omega))
     have hfR : ∀ k m, k + m ≤ 8 → ∀ r ∈ R, xV k m r = true := fun k m h => by
      rw [← hR]
      exact zbE (fun q => by show k + m ≤ q + 8; omega)
     have hfO : ∀ k m, k + m ≤ 8 → ∀ r ∈ zZ (shF 8) (nT A) (l.take i), xV k m r = true := fun k m h => zb2 (fun q => by show k + m ≤ q + 8; omega)
     have hro : (zZ (shF 8) (nT A) (l.take i)).length = i := by rw [qI, List.length_take]; omega
     have hf5 : zcf 5 1 0 (zdT ⟨MC, MP, CC, MR⟩ :: zfi :: zdt (slC 3 1 R) qj qj MR :: obM 51 1 R :: obM 62 6 (zZ (shF 8) (nT A) (l.take i)) :: none :: none :: none :: (T ++ zag (l.take i))) := by
      refine ⟨.inl (by decide), rfl, .inl (by decide), rfl, .inl (by decide), ?_, xW (.inl (by decide)) (hfR 5 1 (by decide)) (xW (.inl (by decide)) (hfO 5 1 (by decide)) (hfT 5 1 (by decide)))⟩
      simp [zo8, xV, far, qj, xk]
     have hf6 : zcf 6 2 0 (zdT ⟨MC, MP, CC, MR⟩ :: zfi :: zdt (slC 3 1 R) qj qj MR :: obM 51 1 R :: obM 62 6 (zZ (shF 8) (nT A) (l.take i)) :: some ⟨62, 6, false, .box (pvs o.row)⟩ :: none :: none :: (T ++ zag (l.take i))) := by
      refine ⟨.inl (by decide), rfl, .inl (by decide), rfl, .inl (by decide), ?_, xW (.inl (by decide)) (hfR 6 2 (by decide)) (xW (.inl (by decide)) (hfO 6 2 (by decide)) ⟨.inl (by decide), rfl, hfT 6 2 (by decide)⟩)⟩
      simp [zo8, xV, far, qj, xk]
     generalize hRO : zZ (shF 8) (nT A) (l.take i) = RO at *
     generalize hTT : T ++ zag (l.take i) = TT at *
     have hb : (RO.length + 1) * 64 ≤ 140737488355328 := by omega
     have hn : RO.length + 1 ≤ 9223372036854775807 := by omega
     have hcl := c_cloneQ o.charges (Nat.le_trans hoc (by decide))
     obtain ⟨pl, cs⟩ := o
     rcases cs with _ | ⟨c0, C0⟩
     · refine zo ?_
       repeat' (first | (refine zh4 ?_) | (refine zbl ?_) | ((show zS _ _ _ _ (.seq (.block 3 _) _) _ _ _; refine zoU ([(1, .ptr 0 4 0 0), (2, .ptr 1 4 0 0), (3, .ptr 2 4 0 0), (17, .pv (.sl 1 (MC.map zx))), (18, zf .i64 MC.length), (19, zf .i64 k), (23, .pv (.sl 6 (l.map Opt.row))), (24, zf .i64 l.length), (25, zf .i64 i)] ++ [(6, slC 4 6 (zZ (shF 8) (nT A) (l.take (i + 1))))]) (zdT ⟨MC, MP, CC, MR⟩ :: zfi :: zdt (slC 3 1 R) qj qj MR :: obM 51 1 R :: obM 62 6 (zZ (shF 8) (nT A) (l.take (i + 1))) :: none :: none :: none :: (zW (shF 8) 0 A ++ zag (l.take (i + 1)))) ?_ ?_)) | ((show zC _ _ _ _ _ _; refine zbK ?_)) | ((show zS _ _ _ _ (.region 8 _ _) _ _ _; refine zL (k := 5) (qQ.room (Nat.zero_le _) (Nat.le_of_ble_eq_true rfl) (fun _ _ h => h) (show zbd 5 1 _ = true by simp [zbd, xV, far, xk, zf, zm]) hf5) ?_)) | ((change zN TT _; refine zo ?_)) | ((show zS _ _ _ _ (.region 9 _ _) _ _ _; refine zdr (k := 6) (qQ.room (Nat.zero_le _) (Nat.le_of_ble_eq_true rfl) (fun _ _ h => h) (show zbd 6 2 _ = true by simp [zbd, xV, far, xk, zf, zm]) hf6) ?_)) | ((change zn _ _ _ _ _; refine zig [.pv (.sl 2 (([] : List Charge).map Charge.row))] (N := TT.length + 8) rfl rfl hcl ?_)) | ((change zN (TT ++ _) _; refine zo ?_)) | ((refine zp3 (j := 8) (rem0 := [9]) (rem1 := [9]) rfl rfl rfl rfl rfl rfl rfl ?_; refine zk0 (rows := RO) (id := 4) (idx := 6) rfl rfl rfl rfl rfl rfl rfl hb hn ?_)) | refine o1 ?_ | refine o2 ?_ | refine k1 ?_ | refine k2 ?_ | refine k3 ?_ | refine k4 ?_ | refine k6 ?_ | refine And.intro ?_ ?_ | exact trivial | refine o5 ?_ | refine o6 ?_ | (intro h; first | exact Bool.noConfusion h | exact nz _ h | exact nl h | (simp at h; done) | (simp at h; first | (exfalso; omega) | skip) | skip) | exact (by kernel_rfl : zl _ _ = true) | refine zc (by omega) (by omega) ?_ | refine ⟨_, _, (by first | rfl | assumption), zg (by assumption), ?_⟩ | fail)
       all_goals first
        | (refine Later.mk ?_
           refine zkE (o := ⟨pl, []⟩) (m := ⟨MC, MP, CC, MR⟩) hR ho hRO (by rw [hT]; exact hTT) ?_ (fun q x h => h) rfl (fun d rest => ?_)
           · rfl
           · repeat' (first | exact trivial | exact rfl | refine And.intro ?_ ?_))
        | (refine ⟨i + 1, hlt2, by omega, ?_⟩
           subst hT
           exact zcj (by repeat (first | exact zdD | refine zcc rfl ?_)))
     · refine zo ?_
       repeat' (first | (refine zh4 ?_) | (refine zbl ?_) | ((show zS _ _ _ _ (.seq (.block 3 _) _) _ _ _; refine zoU ([(1, .ptr 0 4 0 0), (2, .ptr 1 4 0 0), (3, .ptr 2 4 0 0), (17, .pv (.sl 1 (MC.map zx))), (18, zf .i64 MC.length), (19, zf .i64 k), (23, .pv (.sl 6 (l.map Opt.row))), (24, zf .i64 l.length), (25, zf .i64 i)] ++ [(6, slC 4 6 (zZ (shF 8) (nT A) (l.take (i + 1))))]) (zdT ⟨MC, MP, CC, MR⟩ :: zfi :: zdt (slC 3 1 R) qj qj MR :: obM 51 1 R :: obM 62 6 (zZ (shF 8) (nT A) (l.take (i + 1))) :: none :: none :: none :: (zW (shF 8) 0 A ++ zag (l.take (i + 1)))) ?_ ?_)) | ((show zC _ _ _ _ _ _; refine zbK ?_)) | ((show zS _ _ _ _ (.region 8 _ _) _ _ _; refine zL (k := 5) (qQ.room (Nat.zero_le _) (Nat.le_of_ble_eq_true rfl) (fun _ _ h => h) (show zbd 5 1 _ = true by simp [zbd, xV, far, xk, zf, zm]) hf5) ?_)) | ((change zN TT _; refine zo ?_)) | ((show zS _ _ _ _ (.region 9 _ _) _ _ _; refine zdr (k := 6) (qQ.room (Nat.zero_le _) (Nat.le_of_ble_eq_true rfl) (fun _ _ h => h) (show zbd 6 2 _ = true by simp [zbd, xV, far, xk, zf, zm]) hf6) ?_)) | ((change zn _ _ _ _ _; refine zig [.pv (.sl 2 ((c0 :: C0).map Charge.row))] (N := TT.length + 8) rfl rfl hcl ?_)) | ((change zN (TT ++ _) _; refine zo ?_)) | ((refine zp3 (j := 8) (rem0 := [9]) (rem1 := [9]) rfl rfl rfl rfl rfl rfl rfl ?_; refine zk0 (rows := RO) (id := 4) (idx := 6) rfl rfl rfl rfl rfl rfl rfl hb hn ?_)) | refine o1 ?_ | refine o2 ?_ | refine k1 ?_ | refine k2 ?_ | refine k3 ?_ | refine k4 ?_ | refine k6 ?_ | refine And.intro ?_ ?_ | exact trivial | refine o5 ?_ | refine o6 ?_ | (intro h; first | exact Bool.noConfusion h | exact nz _ h | exact nl h | (simp at h; done) | (simp at h; first | (exfalso; omega) | skip) | skip) | exact (by kernel_rfl : zl _ _ = true) | refine zc (by omega) (by omega) ?_ | refine ⟨_, _, (by first | rfl | assumption), zg (by assumption), ?_⟩ | fail)
       all_goals first
        | (refine Later.mk ?_
           refine zkE (o := ⟨pl, c0 :: C0⟩) (m := ⟨MC, MP, CC, MR⟩) hR ho hRO (by rw [hT]; exact hTT) ?_ (fun q x h => h) rfl (fun d rest => ?_)
           · rfl
           · repeat' (first | exact trivial | exact rfl | refine And.intro ?_ ?_))
        | (refine ⟨i + 1, hlt2, by omega, ?_⟩
           subst hT
           exact zcj (by repeat (first | exact zdD | refine zcc rfl ?_)))
   · obtain rfl : i = l.length := by omega
     have hlt' : l.take l.length = l := List.take_length
     rw [hlt'] at *
     have hfT : ∀ k m, k + m ≤ 8 → zcf k m 8 (T ++ zag l) := fun k m h => by
      rw [← hT]
      exact za6 (zak (fun q => by show k + m ≤ q + 8; omega) h) (zdF (by omega))
     have hfR : ∀ k m, k + m ≤ 8 → ∀ r ∈ R, xV k m r = true := fun k m h => by
      rw [← hR]
      exact zbE (fun q => by show k + m ≤ q + 8; omega)
     have hfO : ∀ k m, k + m ≤ 8 → ∀ r ∈ zZ (shF 8) (nT A) l, xV k m r = true := fun k m h => zb2 (fun q => by show k + m ≤ q + 8; omega)
     have hro : (zZ (shF 8) (nT A) l).length = l.length := qI
     have hRl : R.length = k := by rw [← hR, za8, hAk]
     have hf5 : zcf 5 2 0 (zdT ⟨MC, MP, CC, MR⟩ :: zfi :: zdt (slC 3 1 R) qj qj MR :: obM 51 1 R :: obM 62 6 (zZ (shF 8) (nT A) l) :: none :: none :: none :: (T ++ zag l)) := by
      refine ⟨.inl (by decide), rfl, .inl (by decide), rfl, .inl (by decide), ?_, xW (.inl (by decide)) (hfR 5 2 (by decide)) (xW (.inl (by decide)) (hfO 5 2 (by decide)) (hfT 5 2 (by decide)))⟩
      simp [zo8, xV, far, qj, xk]
     have hbk := fun (Γ' : zr) (x5 x7 : Option AObj) (G0 : zr) => znX (n := 83) (m := ⟨MC, MP, CC, MR⟩) (l := l) (x5 := x5) (x7 := x7) (Γ' := Γ') (G0 := G0) hR
     rw [← hAl, hT] at hbk
     generalize hRO : zZ (shF 8) (nT A) l = RO at *
     generalize hTT : T ++ zag l = TT at *
     have hb : (R.length + 1) * 24 ≤ 140737488355328 := by omega
     have hn : R.length + 1 ≤ 9223372036854775807 := by omega
     refine zo ?_
     rcases RO with _ | ⟨r0, RO⟩
     all_goals
      repeat' (first | (refine zh4 ?_) | (refine zbl ?_) | ((show zS _ _ _ _ (.region 11 _ _) _ _ _; refine zL (k := 5) (qQ.room (Nat.zero_le _) (Nat.le_of_ble_eq_true rfl) (fun _ _ h => h) (show zbd 5 2 _ = true by simp [zbd, xV, far, xk, zf, zm, slC]) hf5) ?_)) | ((change zN TT _; refine zo ?_)) | ((refine zmh (rows := R) (id := 3) (idx := 5) rfl rfl rfl rfl rfl rfl rfl rfl rfl rfl rfl hb hn ?_)) | refine o1 ?_ | refine o2 ?_ | refine k1 ?_ | refine k2 ?_ | refine k3 ?_ | refine k8 ?_ | refine And.intro ?_ ?_ | (intro h; first | exact Bool.noConfusion h | exact nz _ h | exact nl h | (simp at h; done) | (simp at h; first | (exfalso; omega) | skip) | skip) | refine zc (by omega) (by omega) ?_ | fail)
      refine ⟨k + 1, hlt, by omega, ?_⟩
      refine hbk _ _ _ _ (fun d rest => ?_)
      repeat' (first | exact trivial | exact rfl | refine And.intro ?_ ?_)
 · obtain rfl : k = MC.length := by omega
   have hlt' : MC.take MC.length = MC := List.take_length
   rw [hlt'] at *
   have hidT : ∀ d (fx : List Nat), fx.length = 8 → (zW (shF 8) 0 MC).map (qx d (fx ++ List.range' 8 (nT MC))) = zW (shF 8) 0 MC := fun d fx h => zfO h (Nat.le_refl _)
   have hidR : ∀ d (fx : List Nat), fx.length = 8 → (qp (shF 8) 0 MC).map (xY d (fx ++ List.range' 8 (nT MC))) = qp (shF 8) 0 MC := fun d fx h => zec h (Nat.le_refl _)
   have hTl : (zW (shF 8) 0 MC).length = nT MC := qg
   have hfT : ∀ k m, k + m ≤ 8 → zcf k m 8 (zW (shF 8) 0 MC) := fun k m h => zak (fun q => by show k + m ≤ q + 8; omega) h
   have hfR : ∀ k m, k + m ≤ 8 → ∀ r ∈ qp (shF 8) 0 MC, xV k m r = true := fun k m h => zbE (fun q => by show k + m ≤ q + 8; omega)
   generalize hT : zW (shF 8) 0 MC = T at *
   generalize hR : qp (shF 8) 0 MC = R at *
   refine zo ?_
   repeat' (first | refine o1 ?_ | refine o2 ?_ | refine k1 ?_ | refine k2 ?_ | refine k3 ?_ | refine k4 ?_ | refine k8 ?_ | refine And.intro ?_ ?_ | (intro h; first | exact Bool.noConfusion h | exact nz _ h | exact nl h | (simp at h; done) | (simp at h; first | (exfalso; omega) | skip) | skip) | refine za ?_ | fail)
   refine zy (fun k : Nat => [(1, .ptr 0 4 0 0), (2, .ptr 1 4 0 0), (3, .ptr 2 4 0 0), (47, .pv (.sl 4 (MP.map Pair.row))), (48, zf .i64 MP.length), (49, zf .i64 k)]) (fun k => zdT ⟨MC, MP, CC, MR⟩ :: zfi :: zdt (slC 3 1 R) (slP 4 4 ((MP.take k).map Pair.row)) qj MR :: obM 51 1 R :: obP 72 4 ((MP.take k).map Pair.row) :: none :: none :: none :: T) (fun k => k ≤ MP.length) (fun k => MP.length - k) 0 (Nat.zero_le _) ?_ ?_
   · refine zG ([0, 1, 2, 3, 4, 5, 6, 7] ++ List.range' 8 (nT MC)) (za4 rfl (by decide)) rfl ?_ (by repeat' (first | exact trivial | exact rfl | refine And.intro ?_ ?_))
     show zat _ _ _ (0 :: 1 :: 2 :: 3 :: 4 :: 5 :: 6 :: 7 :: List.range' 8 (nT MC)) _
     refine ⟨rfl, rfl, qJ rfl ?_ rfl rfl (xg rfl (hidR _ _ rfl) (zfx rfl hTl (hidT _ _ rfl) fun q o ho => ho))⟩
     rw [xP, hidR _ _ rfl]; rfl
   intro k hk
   rcases Nat.lt_or_ge k MP.length with hlt | hge
   · obtain ⟨p, hp⟩ := qd hlt
     have hpt := zpP p.table (h5 p (List.mem_of_getElem? hp))
     have hto : MP.take (k + 1) = MP.take k ++ [p] := by rw [List.take_succ, hp]; rfl
     have hro : ((MP.take k).map Pair.row).length = k := by rw [List.length_map, List.length_take]; omega
     have hf5 : zcf 5 1 0 (zdT ⟨MC, MP, CC, MR⟩ :: zfi :: zdt (slC 3 1 R) (slP 4 4 ((MP.take k).map Pair.row)) qj MR :: obM 51 1 R :: obP 72 4 ((MP.take k).map Pair.row) :: none :: none :: none :: T) := by
      refine ⟨.inl (by decide), rfl, .inl (by decide), rfl, .inl (by decide), ?_, xW (.inl (by decide)) (hfR 5 1 (by decide)) (zf2 (.inl (by decide)) (hfT 5 1 (by decide)))⟩
      simp [zo8, xV, far, qj, xk, zi4]
     have hf6 : ∀ b, zcf 6 2 0 (zdT ⟨MC, MP, CC, MR⟩ :: zfi :: zdt (slC 3 1 R) (slP 4 4 ((MP.take k).map Pair.row)) qj MR :: obM 51 1 R :: obP 72 4 ((MP.take k).map Pair.row) :: some ⟨72, 4, false, .box (pvs b)⟩ :: none :: none :: T) := fun b => by
      refine ⟨.inl (by decide), rfl, .inl (by decide), rfl, .inl (by decide), ?_, xW (.inl (by decide)) (hfR 6 2 (by decide)) (zf2 (.inl (by decide)) ⟨.inl (by decide), zbD, hfT 6 2 (by decide)⟩)⟩
      simp [zo8, xV, far, qj, xk, zi4]
     generalize hRO : (MP.take k).map Pair.row = RO at *
     have hb : (RO.length + 1) * 48 ≤ 140737488355328 := by omega
     have hn : RO.length + 1 ≤ 9223372036854775807 := by omega
     refine zo ?_
     repeat' (first | (refine zbl ?_) | (refine xE ?_) | (refine zY ?_) | ((change zN T _; refine zo ?_)) | ((show zS _ _ _ _ (.region 15 _ _) _ _ _; refine zL (k := 5) (qQ.room (Nat.zero_le _) (Nat.le_of_ble_eq_true rfl) (fun _ _ h => h) (show zbd 5 1 _ = true by simp [zbd, xV, far, zf, zm]) hf5) ?_)) | ((show zS _ _ _ _ (.region 17 _ _) _ _ _; refine zL (k := 6) (qQ.room (Nat.zero_le _) (Nat.le_of_ble_eq_true rfl) (fun _ _ h => h) (show zbd 6 2 _ = true by simp [zbd, xV, far, zf, zm]) (hf6 p.row)) ?_)) | ((change zn _ _ _ _ _; refine qn rfl (by repeat' (first | trivial | refine And.intro ?_ ?_ | (show 0 + _ ≤ List.length _; simp))) zT.refl hpt ?_; rintro _ rfl)) | ((refine zbP (rows := RO) (id := 4) (idx := 6) rfl rfl rfl rfl rfl rfl rfl rfl rfl rfl rfl hb hn ?_)) | refine o1 ?_ | refine o2 ?_ | refine k1 ?_ | refine k2 ?_ | refine k3 ?_ | refine k4 ?_ | refine k6 ?_ | refine And.intro ?_ ?_ | (intro h; first | exact Bool.noConfusion h | exact nz _ h | exact nl h | (simp at h; done) | (simp at h; first | (exfalso; omega) | skip) | skip) | exact (by kernel_rfl : zl _ _ = true) | refine zc (by omega) (by omega) ?_ | refine ⟨_, _, (by first | rfl | assumption), zg (by assumption), ?_⟩ | fail)
     refine ⟨k + 1, hlt, by omega, ?_⟩
     rw [hto, zK, hRO]
     refine zG ([0, 1, 2, 3, 7, 5, 6, 4] ++ List.range' 8 (nT MC)) (za4 rfl (by decide)) rfl ?_ (by repeat' (first | exact trivial | exact rfl | refine And.intro ?_ ?_))
     show zat _ _ _ (0 :: 1 :: 2 :: 3 :: 7 :: 5 :: 6 :: 4 :: List.range' 8 (nT MC)) _
     refine ⟨rfl, rfl, qJ rfl ?_ ?_ ?_ (xg rfl (hidR _ _ rfl) (zB ?_ (zfx rfl hTl (hidT _ _ rfl) fun q o ho => ho)))⟩
     · rw [xP, hidR _ _ rfl]; rfl
     · rw [zfs, qh]; rfl
     · rfl
     · rw [qi]; rfl
   · obtain rfl : k = MP.length := by omega
     have hlt' : MP.take MP.length = MP := List.take_length
     rw [hlt']
     generalize hRO : MP.map Pair.row = RO at *
     refine zo ?_
     repeat' (first | refine o1 ?_ | refine o2 ?_ | refine k1 ?_ | refine k2 ?_ | refine k3 ?_ | refine k4 ?_ | refine k8 ?_ | refine And.intro ?_ ?_ | (intro h; first | exact Bool.noConfusion h | exact nz _ h | exact nl h | (simp at h; done) | (simp at h; first | (exfalso; omega) | skip) | skip) | refine za ?_ | fail)
     refine zy (fun k : Nat => [(1, .ptr 0 4 0 0), (2, .ptr 1 4 0 0), (3, .ptr 2 4 0 0), (65, .pv (.sl 4 (CC.map Count.row))), (66, zf .i64 CC.length), (67, zf .i64 k)]) (fun k => zdT ⟨MC, MP, CC, MR⟩ :: zfi :: zdt (slC 3 1 R) (.pv (.sl 4 RO)) (slP 4 4 ((CC.take k).map Count.row)) MR :: obM 51 1 R :: obP 78 4 ((CC.take k).map Count.row) :: none :: none :: none :: T) (fun k => k ≤ CC.length) (fun k => CC.length - k) 0 (Nat.zero_le _) ?_ ?_
     · refine zC.shut_sl (i := 2) (c := 1) (id := 4) (rows := RO) rfl rfl rfl (by decide) fun H' hl h2 hk => ?_
       have hh : ∀ j : Nat, j ≠ 4 → j ≠ 2 → H'[j]? = _ := hk
       refine zG ([0, 1, 2, 3, 4, 5, 6, 7] ++ List.range' 8 (nT MC)) (za4 rfl (by decide)) rfl ?_ (by repeat' (first | exact trivial | exact rfl | refine And.intro ?_ ?_))
       show zat _ _ _ (0 :: 1 :: 2 :: 3 :: 4 :: 5 :: 6 :: 7 :: List.range' 8 (nT MC)) _
       refine ⟨(hk 0 (by decide) (by decide)).trans rfl, (hk 1 (by decide) (by decide)).trans rfl, qJ (h2.trans rfl) ?_ rfl rfl (xg ((hk 3 (by decide) (by decide)).trans rfl) (hidR _ _ rfl) (zfx rfl hTl (hidT _ _ rfl) fun q o ho => (hk _ (by omega) (by omega)).trans ho))⟩
       rw [xP, hidR _ _ rfl]; rfl
     intro k hk
     rcases Nat.lt_or_ge k CC.length with hlt | hge
     · obtain ⟨p, hp⟩ := qd hlt
       have hpt := zpN p.loads (h7 p (List.mem_of_getElem? hp))
       have hto : CC.take (k + 1) = CC.take k ++ [p] := by rw [List.take_succ, hp]; rfl
       have hro : ((CC.take k).map Count.row).length = k := by rw [List.length_map, List.length_take]; omega
       have hf5 : zcf 5 1 0 (zdT ⟨MC, MP, CC, MR⟩ :: zfi :: zdt (slC 3 1 R) (.pv (.sl 4 RO)) (slP 4 4 ((CC.take k).map Count.row)) MR :: obM 51 1 R :: obP 78 4 ((CC.take k).map Count.row) :: none :: none :: none :: T) := by
        refine ⟨.inl (by decide), rfl, .inl (by decide), rfl, .inl (by decide), ?_, xW (.inl (by decide)) (hfR 5 1 (by decide)) (zf2 (.inl (by decide)) (hfT 5 1 (by decide)))⟩
        simp [zo8, xV, far, qj, xk, zi4]
       have hf6 : ∀ b, zcf 6 2 0 (zdT ⟨MC, MP, CC, MR⟩ :: zfi :: zdt (slC 3 1 R) (.pv (.sl 4 RO)) (slP 4 4 ((CC.take k).map Count.row)) MR :: obM 51 1 R :: obP 78 4 ((CC.take k).map Count.row) :: some ⟨78, 4, false, .box (pvs b)⟩ :: none :: none :: T) := fun b => by
        refine ⟨.inl (by decide), rfl, .inl (by decide), rfl, .inl (by decide), ?_, xW (.inl (by decide)) (hfR 6 2 (by decide)) (zf2 (.inl (by decide)) ⟨.inl (by decide), zbD, hfT 6 2 (by decide)⟩)⟩
        simp [zo8, xV, far, qj, xk, zi4]
       generalize hCO : (CC.take k).map Count.row = CO at *
       have hb : (CO.length + 1) * 48 ≤ 140737488355328 := by omega
       have hn : CO.length + 1 ≤ 9223372036854775807 := by omega
       subst hRO
       refine zo ?_
       repeat' (first | (refine zbl ?_) | (refine xE ?_) | (refine zY ?_) | ((change zN T _; refine zo ?_)) | ((show zS _ _ _ _ (.region 21 _ _) _ _ _; refine zL (k := 5) (qQ.room (Nat.zero_le _) (Nat.le_of_ble_eq_true rfl) (fun _ _ h => h) (show zbd 5 1 _ = true by simp [zbd, xV, far, zf, zm]) hf5) ?_)) | ((show zS _ _ _ _ (.region 23 _ _) _ _ _; refine zL (k := 6) (qQ.room (Nat.zero_le _) (Nat.le_of_ble_eq_true rfl) (fun _ _ h => h) (show zbd 6 2 _ = true by simp [zbd, xV, far, zf, zm]) (hf6 p.row)) ?_)) | ((change zn _ _ _ _ _; refine qn rfl (by repeat' (first | trivial | refine And.intro ?_ ?_ | (show 0 + _ ≤ List.length _; simp))) zT.refl hpt ?_; rintro _ rfl)) | ((refine zbP (rows := CO) (id := 4) (idx := 6) rfl rfl rfl rfl rfl rfl rfl rfl rfl rfl rfl hb hn ?_)) | refine o1 ?_ | refine o2 ?_ | refine k1 ?_ | refine k2 ?_ | refine k3 ?_ | refine k4 ?_ | refine k6 ?_ | refine And.intro ?_ ?_ | (intro h; first | exact Bool.noConfusion h | exact nz _ h | exact nl h | (simp at h; done) | (simp at h; first | (exfalso; omega) | skip) | skip) | exact (by kernel_rfl : zl _ _ = true) | refine zc (by omega) (by omega) ?_ | refine ⟨_, _, (by first | rfl | assumption), zg (by assumption), ?_⟩ | fail)
       refine ⟨k + 1, hlt, by omega, ?_⟩
       rw [hto, zK, hCO]
       refine zG ([0, 1, 2, 3, 7, 5, 6, 4] ++ List.range' 8 (nT MC)) (za4 rfl (by decide)) rfl ?_ (by repeat' (first | exact trivial | exact rfl | refine And.intro ?_ ?_))
       show zat _ _ _ (0 :: 1 :: 2 :: 3 :: 7 :: 5 :: 6 :: 4 :: List.range' 8 (nT MC)) _
       refine ⟨rfl, rfl, qJ rfl ?_ ?_ ?_ (xg rfl (hidR _ _ rfl) (zB ?_ (zfx rfl hTl (hidT _ _ rfl) fun q o ho => ho)))⟩
       · rw [xP, hidR _ _ rfl]; rfl
       · rfl
       · rw [zfs, qh]; rfl
       · rw [qi]; rfl
     · obtain rfl : k = CC.length := by omega
       have hlt' : CC.take CC.length = CC := List.take_length
       rw [hlt']
       generalize hCO : CC.map Count.row = CO at *
       refine zo ?_
       repeat' (first | ((show zS _ _ _ _ (.seq (.region 25 _ _) _) _ _ _; refine zbK ?_)) | refine o1 ?_ | refine o2 ?_ | refine k1 ?_ | refine k2 ?_ | refine k3 ?_ | refine k8 ?_ | refine And.intro ?_ ?_ | (intro h; first | exact Bool.noConfusion h | exact nz _ h | exact nl h | (simp at h; done) | (simp at h; first | (exfalso; omega) | skip) | skip) | fail)
       refine ⟨?_⟩
       refine qc (Γ' := [(2, .ptr 1 4 0 0), (3, .ptr 2 4 0 0)]) (H' := zdT ⟨MC, MP, CC, MR⟩ :: zfi :: zdt (slC 3 1 R) (.pv (.sl 4 RO)) (.pv (.sl 4 CO)) MR :: obM 51 1 R :: none :: none :: none :: none :: T) ?_ ?_
       · refine zC.shut_sl (i := 2) (c := 2) (id := 4) (rows := CO) rfl rfl rfl (by decide) fun H' hl h2 hk => ?_
         refine zG ([0, 1, 2, 3, 4, 5, 6, 7] ++ List.range' 8 (nT MC)) (za4 rfl (by decide)) rfl ?_ (by repeat' (first | exact trivial | exact rfl | refine And.intro ?_ ?_))
         show zat _ _ _ (0 :: 1 :: 2 :: 3 :: 4 :: 5 :: 6 :: 7 :: List.range' 8 (nT MC)) _
         refine ⟨(hk 0 (by decide) (by decide)).trans rfl, (hk 1 (by decide) (by decide)).trans rfl, qJ (h2.trans rfl) ?_ rfl rfl (xg ((hk 3 (by decide) (by decide)).trans rfl) (hidR _ _ rfl) (zfx rfl hTl (hidT _ _ rfl) fun q o ho => (hk _ (by omega) (by omega)).trans ho))⟩
         rw [xP, hidR _ _ rfl]; rfl
       · have fin : ∀ (x2 : Option AObj) (y : AV), y = slC 3 1 R → zz 0 (.agg [y, .pv (.sl 4 RO), .pv (.sl 4 CO), .pv (ei MR)]) (zdT ⟨MC, MP, CC, MR⟩ :: x2 :: zdt y (.pv (.sl 4 RO)) (.pv (.sl 4 CO)) MR :: obM 51 1 R :: none :: none :: none :: none :: T) (fun r H' => r = .agg [slC 0 1 (qp (shF 1) 0 MC), .pv (.sl 4 RO), .pv (.sl 4 CO), .pv (ei MR)] ∧ H' = obM 51 1 (qp (shF 1) 0 MC) :: zW (shF 1) 0 MC) := fun x2 y hy => by
        subst hy
        have hg : ∀ (d q : Nat), 0 ≤ q → q < 0 + nT MC → (3 :: List.range' 8 (nT MC)).getD (shF 1 q) d = shF 8 q := fun d q _ h => by
         show (List.range' 8 (nT MC)).getD q d = q + 8
         rw [List.getD_eq_getElem?_getD, List.getElem?_range' (by omega), Nat.one_mul, Nat.add_comm]
         rfl
        have hc : ∀ d, (qp (shF 1) 0 MC).map (xY d (3 :: List.range' 8 (nT MC))) = R := fun d => by
         rw [zaE, ← hR]
         exact xx (hg d)
        refine qv (3 :: List.range' 8 (nT MC)) (obM 51 1 (qp (shF 1) 0 MC) :: zW (shF 1) 0 MC) ?_ rfl ?_ (r' := .agg [slC 0 1 (qp (shF 1) 0 MC), .pv (.sl 4 RO), .pv (.sl 4 CO), .pv (ei MR)]) ?_ ⟨rfl, rfl⟩
        · exact za4 (fx := [3]) rfl (by decide)
        · refine xg rfl (hc _) ?_
          refine zdC (by rw [qg, List.length_range']) fun q i hq o ho => ?_
          have hq2 : q < nT MC := by
           have := (List.getElem?_eq_some_iff.1 hq).1
           rwa [List.length_range'] at this
          rw [List.getElem?_range' hq2, Nat.one_mul] at hq
          injection hq with hq
          subst hq
          rw [zaj, xt (hg _), hT] at ho
          rw [show 8 + q = q + 8 from Nat.add_comm _ _]
          exact ho
        · show _ = AV.agg [xJ _ _ (slC 0 1 (qp (shF 1) 0 MC)), .pv (.sl 4 RO), .pv (.sl 4 CO), .pv (ei MR)]
          rw [xP, hc]; rfl
         clear hidR hidT
         rcases R with _ | ⟨r0, R⟩
         all_goals
          repeat' (first | (refine zbl ?_) | ((change zN T _; refine zo ?_)) | ((change zz _ _ _ _; exact fin _ _ rfl)) | refine o1 ?_ | refine o2 ?_ | refine k1 ?_ | refine k2 ?_ | refine k7 ?_ | fail)
end Go.Proofs.YtihpjcmloecaaaaGreat.Cw
namespace Go.Proofs.YtihpjcmloecaaaaGreat.Cw
open Go Go.Cw Go.Proofs
set_option linter.unusedVariables false
set_option maxRecDepth 100000
set_option maxHeartbeats 8000000
theorem zcy {H Hc : zq} {d i : Nat} {rn l : List Nat} {x : Option AObj} (h : H[i]? = some (qx d rn x)) (hk : zat H d rn l Hc) : zat H d rn (i :: l) (x :: Hc) := by
 cases x with
 | none => exact hk
 | some o => exact ⟨h, hk⟩
def zhU (A B : List (List Opt)) : Nat := A.length + (B.length + 1)
def hS0 (m : Model) (P C : PV) (R : Int) (x4 x5 : Option AObj) (L : List (List Opt)) : zq :=
 zdT m :: zfi :: zdt (slC 3 1 (qp (shF 10) 0 L)) (.pv P) (.pv C) R :: obM 51 1 (qp (shF 10) 0 L) :: x4 :: x5 :: none :: none :: none :: none :: zW (shF 10) 0 L
def hS1 (m : Model) (P C : PV) (R : Int) (x4 x5 : Option AObj) (A : List (List Opt)) (l : List Opt) (B : List (List Opt)) : zq :=
 zdT m :: zfi :: zdt (.ms 3 1 0 (zhU A B)) (.pv P) (.pv C) R :: some ⟨51, 1, false, .m (qp (shF 10) 0 A ++ [.ms 6 6 0 l.length] :: qp (shF 10) (nT A + l.length + 1) B)⟩ :: x4 :: x5 ::
  some ⟨62, 6, false, .m (zZ (shF 10) (nT A) l)⟩ :: none :: none :: none :: mid A (zag l) none B l.length
def gX (q x : Nat) : Nat → Nat := fun t => if q = t then x else shF 10 t
def hS2 (m : Model) (P C : PV) (R : Int) (x4 x5 : Option AObj) (A : List (List Opt)) (l : List Opt) (B : List (List Opt)) (i : Nat) (rows : List (List AV)) (x7 x8 x9 : Option AObj) : zq :=
 zdT m :: zfi :: zdt (.ms 3 1 0 (zhU A B)) (.pv P) (.pv C) R :: some ⟨51, 1, false, .m (qp (shF 10) 0 A ++ [.ms 6 6 0 l.length] :: qp (shF 10) (nT A + l.length + 1) B)⟩ :: x4 :: x5 ::
  some ⟨62, 6, false, .m rows⟩ :: x7 :: x8 :: x9 :: mid A ((zag l).set i none) none B l.length
def zqa (x : Option AObj) : Prop := ∀ d rest, qx d (0 :: 1 :: 2 :: 3 :: 4 :: 5 :: rest) x = x
section
variable {n i j : Nat} {m : Model} {P C : PV} {R : Int} {x4 x5 x7 x8 x9 : Option AObj} {A B : List (List Opt)} {l l' : List Opt} {o o' : Opt} {Γ G : zr} {rows : List (List AV)}
theorem ze6 : nT (A ++ l :: B) = nT A + (l.length + 1 + nT B) := by rw [zfu]; rfl
theorem zcE : (qp (shF 10) 0 (A ++ l :: B)).length = zhU A B := by rw [za8]; simp [zhU]
theorem zeo {fx : List Nat} {q x N : Nat} (hfx : fx.length = 10) (h : fx.Nodup) (hx : ∀ a ∈ fx, (a < 10 ∧ a ≠ x) ∨ a = q + 10) (hx10 : x < 10) (hq : q < N) : zfE (fx ++ (List.range' 10 N).set q x) = true := rnS_allD h hx hx10 hq
theorem zmD (h4 : zqa x4) (h5 : zqa x5) (hl : 0 < l.length) (hG : ∀ d rest, qT d (0 :: 1 :: 2 :: 3 :: 4 :: 5 :: rest) Γ G) : zC n 0 Γ (hS0 m P C R x4 x5 (A ++ l :: B)) G (hS1 m P C R x4 x5 A l B) := by
 have hp : nT A + l.length < nT (A ++ l :: B) := by rw [ze6]; omega
 refine zG ([0, 1, 2, 3, 4, 5, nT A + l.length + 10, 7, 8, 9] ++ (List.range' 10 (nT (A ++ l :: B))).set (nT A + l.length) 6) (zeo rfl (by simp <;> omega) (by intro a ha; simp at ha; omega) (by decide) hp) rfl ?_ (hG _ _)
 have hg : ∀ (d t : Nat), t < nT (A ++ l :: B) → ([0, 1, 2, 3, 4, 5, nT A + l.length + 10, 7, 8, 9] ++ (List.range' 10 (nT (A ++ l :: B))).set (nT A + l.length) 6).getD (t + 10) d = if nT A + l.length = t then 6 else t + 10 := fun d t ht => zgu rfl ht
 have hf : ∀ d, FixA ([0, 1, 2, 3, 4, 5, nT A + l.length + 10, 7, 8, 9] ++ (List.range' 10 (nT (A ++ l :: B))).set (nT A + l.length) 6) d A l B := fun d => zeJ rfl (by omega) (Nat.le_refl _)
 have hr : (qp (shF 10) 0 (A ++ l :: B)) = qp (shF 10) 0 A ++ [.ms (nT A + l.length + 10) 6 0 l.length] :: qp (shF 10) (nT A + l.length + 1) B := by
  rw [zjb]
  cases l with
  | nil => simp at hl
  | cons a t => rfl
 show zat _ _ _ (0 :: 1 :: 2 :: 3 :: 4 :: 5 :: (nT A + l.length + 10) :: 7 :: 8 :: 9 :: (List.range' 10 (nT (A ++ l :: B))).set (nT A + l.length) 6) _
 refine ⟨rfl, rfl, qJ (x' := .ms 3 1 0 (zhU A B)) ?_ rfl rfl rfl ⟨?_, zcy ?_ (zcy ?_ ⟨?_, ?_⟩)⟩⟩
 · show some (zdt (slC 3 1 (qp (shF 10) 0 (A ++ l :: B))) _ _ _) = _
   rw [zc0 (by rw [zcE]; unfold zhU; omega), zcE]; rfl
 · show some (obM _ 1 (qp (shF 10) 0 (A ++ l :: B))) = _
   rw [zbO (by rw [zcE]; unfold zhU; omega), hr]
   simp only [zd5, qR]
   rw [zjc (hf _)]
   rfl
 · show some x4 = _
   exact congrArg some (h4 _ _).symm
 · show some x5 = _
   exact congrArg some (h5 _ _).symm
 · show (zW (shF 10) 0 (A ++ l :: B))[nT A + l.length]? = _
   rw [opt_at]
   unfold zhk
   rw [zbO (by rw [qI]; exact hl)]
   simp only [zd5, qR]
   rw [zaI]
   congr 4
   exact (q8 fun q h1 h2 => (hg _ q (by omega)).trans (if_neg (by omega))).symm
 · show zat _ _ _ ((List.range' 10 (nT (A ++ l :: B))).set (nT A + l.length) 6) (mid A (zag l) none B l.length)
   rw [← zfW (y := zhk (shF 10) (nT A) l) qu]
   refine zeB (ziO qu) hp ?_ (fun t o _ ho => ?_) (.inl rfl)
   · rw [zfW qu]; exact ziP (hf _) za9 rfl
   · rw [← mid_of] at ho; exact ho
theorem zmC (hl : 0 < l.length) (hG : ∀ d rest, qT d (0 :: 1 :: 2 :: 3 :: 4 :: 5 :: rest) Γ G) : zC n 0 Γ (hS1 m P C R x4 x5 A l B) G (hS0 m P C R none none (A ++ l :: B)) := by
 have hp : nT A + l.length < nT (A ++ l :: B) := by rw [ze6]; omega
 refine zG ([0, 1, 2, 3, 4, 5, nT A + l.length + 10, 7, 8, 9] ++ (List.range' 10 (nT (A ++ l :: B))).set (nT A + l.length) 6) (zeo rfl (by simp <;> omega) (by intro a ha; simp at ha; omega) (by decide) hp) rfl ?_ (hG _ _)
 have hg : ∀ (d t : Nat), t < nT (A ++ l :: B) → ([0, 1, 2, 3, 4, 5, nT A + l.length + 10, 7, 8, 9] ++ (List.range' 10 (nT (A ++ l :: B))).set (nT A + l.length) 6).getD (t + 10) d = if nT A + l.length = t then 6 else t + 10 := fun d t ht => zgu rfl ht
 have hf : ∀ d, FixA ([0, 1, 2, 3, 4, 5, nT A + l.length + 10, 7, 8, 9] ++ (List.range' 10 (nT (A ++ l :: B))).set (nT A + l.length) 6) d A l B := fun d => zeJ rfl (by omega) (Nat.le_refl _)
 have hr : (qp (shF 10) 0 (A ++ l :: B)) = qp (shF 10) 0 A ++ [.ms (nT A + l.length + 10) 6 0 l.length] :: qp (shF 10) (nT A + l.length + 1) B := by
  rw [zjb]
  cases l with
  | nil => simp at hl
  | cons a t => rfl
 have hri : ∀ d, (qp (shF 10) 0 (A ++ l :: B)).map (xY d ([0, 1, 2, 3, 4, 5, nT A + l.length + 10, 7, 8, 9] ++ (List.range' 10 (nT (A ++ l :: B))).set (nT A + l.length) 6)) = qp (shF 10) 0 A ++ [.ms 6 6 0 l.length] :: qp (shF 10) (nT A + l.length + 1) B := fun d => by
  rw [hr, zjc (hf _)]
  congr 2
  show [AV.ms _ 6 0 l.length] = _
  rw [hg _ _ hp, if_pos rfl]
 show zat _ _ _ (0 :: 1 :: 2 :: 3 :: 4 :: 5 :: (nT A + l.length + 10) :: 7 :: 8 :: 9 :: (List.range' 10 (nT (A ++ l :: B))).set (nT A + l.length) 6) _
 refine ⟨rfl, rfl, qJ rfl ?_ rfl rfl (xg (rows' := qp (shF 10) 0 A ++ [.ms 6 6 0 l.length] :: qp (shF 10) (nT A + l.length + 1) B) ?_ (hri _) ?_)⟩
 · rw [xP, hri, zc0 (by simp; omega)]
   simp [za8, zhU]
 · rw [zbO (by simp; omega)]; rfl
 · show zat _ _ _ ((List.range' 10 (nT (A ++ l :: B))).set (nT A + l.length) 6) (zW (shF 10) 0 (A ++ l :: B))
   rw [mid_of, ← zfW (y := none) qu]
   refine zeB (ziO qu) hp ?_ (fun t o _ ho => ho) (.inr ?_)
   · rw [zfW qu]; exact ziP (hf _) za9 (optO_inv fun t h1 h2 => by rw [hg _ t (by omega), if_neg (by omega)])
   · show some (some _) = _
     unfold zhk
     rw [zbO (by rw [qI]; exact hl)]
theorem zmB (h4 : zqa x4) (h5 : zqa x5) (ho : l[i]? = some o) (hG : ∀ d rest, qT d (0 :: 1 :: 2 :: 3 :: 4 :: 5 :: 6 :: rest) Γ G) :
 zC n 0 Γ (hS1 m P C R x4 x5 A l B) G (hS2 m P C R x4 x5 A l B i (zZ (gX (nT A + i) 7) (nT A) l) (chO o.charges) none none) := by
 have hi := (List.getElem?_eq_some_iff.1 ho).1
 have hp : nT A + i < nT (A ++ l :: B) := by rw [ze6]; omega
 refine zG ([0, 1, 2, 3, 4, 5, 6, nT A + i + 10, 8, 9] ++ (List.range' 10 (nT (A ++ l :: B))).set (nT A + i) 7) (zeo rfl (by simp <;> omega) (by intro a ha; simp at ha; omega) (by decide) hp) rfl ?_ (hG _ _)
 have hg : ∀ (d t : Nat), t < nT (A ++ l :: B) → ([0, 1, 2, 3, 4, 5, 6, nT A + i + 10, 8, 9] ++ (List.range' 10 (nT (A ++ l :: B))).set (nT A + i) 7).getD (t + 10) d = if nT A + i = t then 7 else t + 10 := fun d t ht => zgu rfl ht
 have hf : ∀ d, FixA ([0, 1, 2, 3, 4, 5, 6, nT A + i + 10, 8, 9] ++ (List.range' 10 (nT (A ++ l :: B))).set (nT A + i) 7) d A l B := fun d => zeJ rfl (by omega) (by omega)
 show zat _ _ _ (0 :: 1 :: 2 :: 3 :: 4 :: 5 :: 6 :: (nT A + i + 10) :: 8 :: 9 :: (List.range' 10 (nT (A ++ l :: B))).set (nT A + i) 7) _
 refine ⟨rfl, rfl, qJ rfl rfl rfl rfl ⟨?_, zcy ?_ (zcy ?_ ⟨?_, zcy ?_ ?_⟩)⟩⟩
 · show some (some _) = _
   simp only [zd5, qR]
   rw [zjc (hf _)]
   rfl
 · show some x4 = _
   exact congrArg some (h4 _ _).symm
 · show some x5 = _
   exact congrArg some (h5 _ _).symm
 · show some (some _) = _
   simp only [zd5, qR]
   rw [zaI]
   congr 4
   refine q8 fun t h1 h2 => ?_
   by_cases e : nT A + i = t
   · subst e
     show _ = ([0, 1, 2, 3, 4, 5, 6, nT A + i + 10, 8, 9] ++ _).getD (gX (nT A + i) 7 (nT A + i)) _
     rw [show gX (nT A + i) 7 (nT A + i) = 7 from if_pos rfl]
     rfl
   · show t + 10 = List.getD _ (gX (nT A + i) 7 t) _
     rw [show gX (nT A + i) 7 t = t + 10 from if_neg e, hg _ t (by rw [ze6]; omega), if_neg e]
 · show (mid A (zag l) none B l.length)[nT A + i]? = _
   rw [zg7]
   unfold mid
   rw [List.getElem?_append_right (by rw [qg]; omega), qg, Nat.add_sub_cancel_left, List.getElem?_append_left (by rw [qu]; exact hi)]
   unfold zag
   rw [List.getElem?_map, ho]; rfl
 · show zat _ _ _ ((List.range' 10 (nT (A ++ l :: B))).set (nT A + i) 7) (mid A ((zag l).set i none) none B l.length)
   rw [← zfX qu hi]
   refine zeB (ziO qu) hp ?_ (fun t o _ ho => ho) (.inl rfl)
   rw [zfX qu hi]
   refine ziP (hf _) ?_ rfl
   rw [List.map_set, za9]; rfl
theorem zbC {x : Nat} (hx : 7 ≤ x ∧ x < 10) (h4 : zqa x4) (h5 : zqa x5) (ho : l[i]? = some o) (hpl : o'.place = o.place) (hrows : rows = (zZ (shF 10) (nT A) l).set i (zdQ (chC x o'.charges) o.place)) (hx9 : chO o'.charges = none ∨ [x7, x8, x9][x - 7]? = some (chO o'.charges)) (hl' : l' = l.set i o')
 (hG : ∀ d rest, qT d (0 :: 1 :: 2 :: 3 :: 4 :: 5 :: 6 :: rest) Γ G) : zC n 0 Γ (hS2 m P C R x4 x5 A l B i rows x7 x8 x9) G (hS1 m P C R x4 x5 A l' B) := by
 have hi := (List.getElem?_eq_some_iff.1 ho).1
 have hll : l'.length = l.length := by rw [hl', List.length_set]
 have hnn : nT (A ++ l' :: B) = nT (A ++ l :: B) := nT_same hll
 have hp : nT A + i < nT (A ++ l' :: B) := by rw [ze6]; omega
 have hfx : ∃ fx : List Nat, [0, 1, 2, 3, 4, 5, 6] ++ fx = [0, 1, 2, 3, 4, 5, 6, 7, 8, 9].set x (nT A + i + 10) ∧ fx.length = 3 := by
  obtain rfl | rfl | rfl : x = 7 ∨ x = 8 ∨ x = 9 := by omega
  · exact ⟨_, rfl, rfl⟩
  · exact ⟨_, rfl, rfl⟩
  · exact ⟨_, rfl, rfl⟩
 obtain ⟨fx, hfx, hfl⟩ := hfx
 have hnd : ([0, 1, 2, 3, 4, 5, 6] ++ fx).Nodup ∧ ∀ a ∈ [0, 1, 2, 3, 4, 5, 6] ++ fx, (a < 10 ∧ a ≠ x) ∨ a = nT A + i + 10 := by
  rw [hfx]
  obtain rfl | rfl | rfl : x = 7 ∨ x = 8 ∨ x = 9 := by omega
  all_goals
   refine ⟨?_, fun a ha => ?_⟩
   · simp <;> omega
   · simp at ha; omega
 refine zG (([0, 1, 2, 3, 4, 5, 6] ++ fx) ++ (List.range' 10 (nT (A ++ l' :: B))).set (nT A + i) x) (zeo (by simp [hfl]) hnd.1 hnd.2 hx.2 hp) rfl ?_ (hG _ _)
 have hg : ∀ (d t : Nat), t < nT (A ++ l' :: B) → (([0, 1, 2, 3, 4, 5, 6] ++ fx) ++ (List.range' 10 (nT (A ++ l' :: B))).set (nT A + i) x).getD (t + 10) d = if nT A + i = t then x else t + 10 := fun d t ht => zgu (by simp [hfl]) ht
 have hf : ∀ d, FixA (([0, 1, 2, 3, 4, 5, 6] ++ fx) ++ (List.range' 10 (nT (A ++ l' :: B))).set (nT A + i) x) d A l' B := fun d => zeJ (by simp [hfl]) (by omega) (by omega)
 obtain ⟨f7, f8, f9, rfl⟩ : ∃ a b c, fx = [a, b, c] := by
  match fx, hfl with
  | [a, b, c], _ => exact ⟨a, b, c, rfl⟩
 show zat _ _ _ (0 :: 1 :: 2 :: 3 :: 4 :: 5 :: 6 :: f7 :: f8 :: f9 :: (List.range' 10 (nT (A ++ l' :: B))).set (nT A + i) x) _
 refine ⟨rfl, rfl, qJ rfl rfl rfl rfl ⟨?_, zcy ?_ (zcy ?_ ⟨?_, ?_⟩)⟩⟩
 · show some (some _) = _
   simp only [zd5, qR]
   rw [zjc (hf _), hll]
   rfl
 · show some x4 = _
   exact congrArg some (h4 _ _).symm
 · show some x5 = _
   exact congrArg some (h5 _ _).symm
 · show some (some _) = _
   simp only [zd5, qR]
   rw [zaI, hrows, ← zl5 ho hpl, hl']
   congr 4
   refine q8 fun t h1 h2 => ?_
   rw [List.length_set] at h2
   subst hl'
   exact (hg _ t (by rw [ze6, hll]; omega)).symm
 · show zat _ _ _ ((List.range' 10 (nT (A ++ l' :: B))).set (nT A + i) x) (mid A (zag l') none B l'.length)
   have hc : zag l' = ((zag l).set i none).set i (chO o'.charges) := by
    rw [List.set_set, hl']; unfold zag; rw [List.map_set]
   have hcl : ((zag l).set i none).length = l'.length := by rw [List.length_set, qu, hll]
   rw [hc, ← zfX hcl (by omega)]
   refine zeB (ziO hcl) hp ?_ (fun t o _ ho => ?_) ?_
   · rw [zfX hcl (by omega), ← hc]
     exact ziP (hf _) za9 rfl
   · rw [hll] at ho; exact ho
   · rcases hx9 with h | h
     · exact .inl h
     · refine .inr ?_
       obtain rfl | rfl | rfl : x = 7 ∨ x = 8 ∨ x = 9 := by omega
       all_goals exact h
def hS0p (m : Model) (P C : PV) (R : Int) (x4 x5 : Option AObj) (A : List (List Opt)) (l : List Opt) (B : List (List Opt)) : zq :=
 zdT m :: zfi :: zdt (.ms 3 1 0 (zhU A B)) (.pv P) (.pv C) R :: some ⟨51, 1, false, .m (qp (shF 10) 0 A ++ [.ms (nT A + l.length + 10) 6 0 l.length] :: qp (shF 10) (nT A + l.length + 1) B)⟩ :: x4 :: x5 :: none :: none :: none :: none :: zW (shF 10) 0 (A ++ l :: B)
theorem zo0 (hl : 0 < l.length) : hS0 m P C R x4 x5 (A ++ l :: B) = hS0p m P C R x4 x5 A l B := by
 unfold hS0 hS0p
 rw [zc0 (by rw [zcE]; unfold zhU; omega), zcE, zbO (by rw [zcE]; unfold zhU; omega), zjb]
 cases l with
 | nil => simp at hl
 | cons a t => rfl
theorem zo4 (h4 : zqa x4) (h5 : zqa x5) (hl : 0 < l.length) (hG : ∀ d rest, qT d (0 :: 1 :: 2 :: 3 :: 4 :: 5 :: rest) Γ G) : zC n 0 Γ (hS0p m P C R x4 x5 A l B) G (hS1 m P C R x4 x5 A l B) := by
 rw [← zo0 hl]
 exact zmD h4 h5 hl hG
theorem gX_at {q x : Nat} : gX q x q = x := if_pos rfl
theorem zo5 {x : Nat} (ho : l[i]? = some o) : zZ (gX (nT A + i) x) (nT A) l = (zZ (shF 10) (nT A) l).set i (zdQ (chC x o.charges) o.place) := by
 have h := zl5 (g := shF 10) (j := nT A) (x := x) (o' := o) ho rfl
 have e : l.set i o = l := by
  obtain ⟨hi, rfl⟩ := List.getElem?_eq_some_iff.1 ho
  exact List.set_getElem_self hi
 rw [e] at h
 exact h
theorem zls {L : List (List Opt)} (hG : ∀ d rest, qT d (0 :: 1 :: 2 :: 3 :: rest) Γ G) : zC n 0 Γ (zdT m :: zfi :: zdt (slC 3 1 (qp (shF 4) 0 L)) (.pv P) (.pv C) R :: obM 51 1 (qp (shF 4) 0 L) :: zW (shF 4) 0 L) G (hS0 m P C R none none L) := by
 have hg : ∀ (d t : Nat), t < nT L → (0 :: 1 :: 2 :: 3 :: (nT L + 4) :: (nT L + 5) :: (nT L + 6) :: (nT L + 7) :: (nT L + 8) :: (nT L + 9) :: List.range' 4 (nT L)).getD (shF 10 t) d = shF 4 t := fun d t ht => by
  show (List.range' 4 (nT L)).getD t d = t + 4
  rw [List.getD_eq_getElem?_getD, List.getElem?_range' ht, Nat.one_mul, Nat.add_comm]; rfl
 have hc : ∀ d, (qp (shF 10) 0 L).map (xY d (0 :: 1 :: 2 :: 3 :: (nT L + 4) :: (nT L + 5) :: (nT L + 6) :: (nT L + 7) :: (nT L + 8) :: (nT L + 9) :: List.range' 4 (nT L))) = qp (shF 4) 0 L := fun d => by
  rw [zaE]
  exact xx fun q _ h => hg _ q (by omega)
 refine zG (0 :: 1 :: 2 :: 3 :: (nT L + 4) :: (nT L + 5) :: (nT L + 6) :: (nT L + 7) :: (nT L + 8) :: (nT L + 9) :: List.range' 4 (nT L)) ?_ rfl ?_ (hG _ _)
 · apply zcK
   simp [List.mem_range'_1, List.nodup_range']
   omega
 · refine ⟨rfl, rfl, qJ rfl ?_ rfl rfl (xg rfl (hc _) ?_)⟩
   · rw [xP, hc]; rfl
   · show zat _ _ _ (List.range' 4 (nT L)) (zW (shF 10) 0 L)
     refine zdC (by rw [qg, List.length_range']) fun q i hq o ho => ?_
     have hq2 : q < nT L := by
      have := (List.getElem?_eq_some_iff.1 hq).1
      rwa [List.length_range'] at this
     rw [List.getElem?_range' hq2, Nat.one_mul] at hq
     injection hq with hq
     subst hq
     rw [zaj, xt (g' := shF 4) fun q _ h => hg _ q (by omega)] at ho
     rw [show 4 + q = q + 4 from Nat.add_comm _ _]
     exact ho
theorem zlv {L : List (List Opt)} {a0 a1 a2 a4 a5 a6 a7 a8 a9 : Option AObj} {ty : Nat} : qm (a0 :: a1 :: a2 :: obM ty 1 (qp (shF 10) 0 L) :: a4 :: a5 :: a6 :: a7 :: a8 :: a9 :: zW (shF 10) 0 L) 5 (slC 3 1 (qp (shF 10) 0 L)) = some (.sl 1 (L.map zx)) ∧ okC (a0 :: a1 :: a2 :: obM ty 1 (qp (shF 10) 0 L) :: a4 :: a5 :: a6 :: a7 :: a8 :: a9 :: zW (shF 10) 0 L) 5 (slC 3 1 (qp (shF 10) 0 L)) := by
 have h : HasT (a0 :: a1 :: a2 :: obM ty 1 (qp (shF 10) 0 L) :: a4 :: a5 :: a6 :: a7 :: a8 :: a9 :: zW (shF 10) 0 L) (shF 10) 0 L := HasT.of fun q _ => by rw [Nat.zero_add]; rfl
 exact ⟨conv_all (n := 2) h rfl, ok_all (n := 2) h rfl⟩
theorem conv_S0p {a0 a1 a2 a4 a5 a6 a7 a8 a9 : Option AObj} {ty : Nat} (hl : 0 < l.length) :
 qm (a0 :: a1 :: a2 :: some ⟨ty, 1, false, .m (qp (shF 10) 0 A ++ [.ms (nT A + l.length + 10) 6 0 l.length] :: qp (shF 10) (nT A + l.length + 1) B)⟩ :: a4 :: a5 :: a6 :: a7 :: a8 :: a9 :: zW (shF 10) 0 (A ++ l :: B)) 5 (.ms 3 1 0 (zhU A B)) = some (.sl 1 ((A ++ l :: B).map zx)) ∧
 okC (a0 :: a1 :: a2 :: some ⟨ty, 1, false, .m (qp (shF 10) 0 A ++ [.ms (nT A + l.length + 10) 6 0 l.length] :: qp (shF 10) (nT A + l.length + 1) B)⟩ :: a4 :: a5 :: a6 :: a7 :: a8 :: a9 :: zW (shF 10) 0 (A ++ l :: B)) 5 (.ms 3 1 0 (zhU A B)) := by
 have h := @zlv (A ++ l :: B) a0 a1 a2 a4 a5 a6 a7 a8 a9 ty
 have e1 : slC 3 1 (qp (shF 10) 0 (A ++ l :: B)) = .ms 3 1 0 (zhU A B) := by rw [zc0 (by rw [zcE]; unfold zhU; omega), zcE]
 have e2 : obM ty 1 (qp (shF 10) 0 (A ++ l :: B)) = some ⟨ty, 1, false, .m (qp (shF 10) 0 A ++ [.ms (nT A + l.length + 10) 6 0 l.length] :: qp (shF 10) (nT A + l.length + 1) B)⟩ := by
  rw [zbO (by rw [zcE]; unfold zhU; omega), zjb]
  cases l with
  | nil => simp at hl
  | cons a t => rfl
 rw [e1, e2] at h
 exact h
theorem conv_two {H : zq} {id z off len : Nat} {p q : PV} {f : FuncId} {caps : List AV} (h : qm H 5 (.ms id z off len) = some p) (h2 : qm H 5 (.fn f caps) = some q) : zap (zch H) [.ms id z off len, .fn f caps] = some [.pv p, .pv q] := by
 simp only [zap, zch, zdp, h, h2]
theorem ok_two {H : zq} {id z off len : Nat} {f : FuncId} {caps : List AV} (h : okC H 5 (.ms id z off len)) (h2 : okC H 5 (.fn f caps)) : zaV (ok1 H) [.ms id z off len, .fn f caps] := ⟨h, h2, trivial⟩
theorem zmI {k m' : Nat} (hk : k + m' ≤ 10) : zcf k m' 10 (zW (shF 10) 0 (A ++ l :: B)) := zak (fun q => by show k + m' ≤ q + 10; omega) hk
theorem zi5 {k m' q : Nat} (hk : k + m' ≤ 10) (hq : k + m' ≤ q ∨ q < k) : ∀ r ∈ qp (shF 10) 0 A ++ [.ms q 6 0 l.length] :: qp (shF 10) (nT A + l.length + 1) B, xV k m' r = true := fun r hr => by
 rcases List.mem_append.1 hr with hr | hr
 · exact zbE (fun q => by show k + m' ≤ q + 10; omega) r hr
 · rcases List.mem_cons.1 hr with rfl | hr
   · simp [xV, far]; omega
   · exact zbE (fun q => by show k + m' ≤ q + 10; omega) r hr
theorem far_a : zcf 4 1 0 (hS0p m P C R none none A l B) :=
 ⟨.inl (by decide), zbD, .inl (by decide), rfl, .inl (by decide), rfl, .inl (by decide), zi5 (by decide) (.inl (by omega)), zmI (by decide)⟩
theorem far_b {ty z : Nat} {fz : Bool} {p : PV} : zcf 5 1 0 (hS0p m P C R (some ⟨ty, z, fz, .box [.pv p]⟩) none A l B) :=
 ⟨.inl (by decide), zbD, .inl (by decide), rfl, .inl (by decide), rfl, .inl (by decide), zi5 (by decide) (.inl (by omega)), .inl (by decide), rfl, zmI (by decide)⟩
theorem zgt {z : List AV} {X : List (List AV)} : (qp (shF 10) 0 A ++ z :: X)[A.length]? = some z := by
 rw [List.getElem?_append_right (by rw [za8]; exact Nat.le_refl _), za8, Nat.sub_self]; rfl
def bxS (s : List Int) : Option AObj := some ⟨22, 1, false, .box [.pv (.sl 1 (s.map zp))]⟩
def bxK : Option AObj := some ⟨92, 1, false, .box [.fn 51 [.ptr 4 1 0 0]]⟩
theorem zfa {s : List Int} : zqa (bxS s) := fun d rest => rfl
theorem zfb : zqa bxK := fun d rest => rfl
theorem xU : zqa none := fun d rest => rfl
theorem conv_in {H : zq} {s : List Int} (h7 : H[7]? = some (chO o.charges)) (h4 : H[4]? = some (bxS s)) :
 zap (zch H) [.agg (zdQ (chC 7 o.charges) o.place), .ptr 4 1 0 0] = some [ag o.row, .pv (.ia [.sl 1 (s.map zp)])] ∧ zaV (ok1 H) [.agg (zdQ (chC 7 o.charges) o.place), .ptr 4 1 0 0] := by
 have e1 := zpi (n := 4) h7
 have e2 := ok_ch (n := 4) h7
 constructor
 · simp only [zap, zch, zdp, zdQ, e1, qm, h4, bxS]
   rfl
 · refine ⟨?_, ?_, trivial⟩
   · show zaV (okC H 5) (zdQ (chC 7 o.charges) o.place)
     unfold zdQ
     simp only [zaV]
     cases hc : o.charges with
     | nil => exact ⟨True.intro, True.intro⟩
     | cons x t => rw [hc] at e2; exact ⟨e2, True.intro⟩
   · show okC H 5 (.ptr 4 1 0 0)
     simp only [okC, h4, bxS]
     exact True.intro
theorem gX_far {q x : Nat} (hx : x < 8) (t : Nat) : gX q x t < 8 ∨ 8 + 2 ≤ gX q x t := by
 unfold gX
 split
 · exact .inl hx
 · right; show 8 + 2 ≤ t + 10; omega
theorem zhM {k m' : Nat} {g : Nat → Nat} (h : ∀ q, g q < k ∨ k + m' ≤ g q) : ∀ {l : List Opt} {j : Nat}, ∀ r ∈ zZ g j l, xV k m' r = true
 | [], _, r, hr => by cases hr
 | o :: l, j, r, hr => by
   rcases List.mem_cons.1 hr with rfl | hr
   · have hg := h j
     simp only [zdQ, xV, far]
     cases hc : o.charges with
     | nil => rfl
     | cons c t => simp [chC, far]; omega
   · exact zhM h (l := l) r hr
theorem far_S2 {q : Nat} {s : List Int} (hx4 : x4 = none ∨ x4 = bxS s) (hx5 : x5 = none ∨ x5 = bxK) : zcf 8 2 0 (hS2 m P C R x4 x5 A l B i (zZ (gX q 7) (nT A) l) (chO o.charges) none none) := by
 have ht : zcf 8 2 10 (mid A ((zag l).set i none) none B l.length) := by
  unfold mid
  refine za6 (zak (fun q => by show 8 + 2 ≤ q + 10; omega) (by decide)) (za6 ?_ ?_)
  · have hch : ∀ (X : zq) (j : Nat), 10 ≤ j → (∀ y ∈ X, y = none ∨ ∃ o : Opt, y = chO o.charges) → zcf 8 2 j X := fun X => by
   induction X with
   | nil => intro j _ _; trivial
   | cons y X ih =>
     intro j hj hy
     have h2 := ih (j + 1) (by omega) fun z hz => hy z (by simp [hz])
     rcases hy y (by simp) with rfl | ⟨o, rfl⟩
     · exact h2
     · cases o.charges with
       | nil => exact h2
       | cons c t => exact ⟨.inr (by omega), trivial, h2⟩
    refine hch _ _ (by omega) fun y hy => ?_
    rcases List.mem_or_eq_of_mem_set hy with hy | rfl
    · obtain ⟨o, _, rfl⟩ := List.mem_map.1 hy
      exact .inr ⟨o, rfl⟩
    · exact .inl rfl
  · exact zak (fun q => by show 8 + 2 ≤ q + 10; omega) (by simp; omega)
 have h7 : zcf 8 2 7 (chO o.charges :: none :: none :: mid A ((zag l).set i none) none B l.length) := by
  cases o.charges with
  | nil => exact ht
  | cons c t => exact ⟨.inl (by decide), trivial, ht⟩
 have h6 : zcf 8 2 6 (some ⟨62, 6, false, .m (zZ (gX q 7) (nT A) l)⟩ :: chO o.charges :: none :: none :: mid A ((zag l).set i none) none B l.length) :=
  ⟨.inl (by decide), zhM (gX_far (by decide)), h7⟩
 have h45 : zcf 8 2 4 (x4 :: x5 :: some ⟨62, 6, false, .m (zZ (gX q 7) (nT A) l)⟩ :: chO o.charges :: none :: none :: mid A ((zag l).set i none) none B l.length) := by
  have h5 : zcf 8 2 5 (x5 :: some ⟨62, 6, false, .m (zZ (gX q 7) (nT A) l)⟩ :: chO o.charges :: none :: none :: mid A ((zag l).set i none) none B l.length) := by
   rcases hx5 with rfl | rfl
   · exact h6
   · exact ⟨.inl (by decide), rfl, h6⟩
  rcases hx4 with rfl | rfl
  · exact h5
  · exact ⟨.inl (by decide), rfl, h5⟩
 exact ⟨.inl (by decide), zbD, .inl (by decide), rfl, .inl (by decide), rfl, .inl (by decide), zi5 (by decide) (.inr (by decide)), h45⟩
end
end Go.Proofs.YtihpjcmloecaaaaGreat.Cw
namespace Go.Proofs.YtihpjcmloecaaaaGreat.Cw
open Go Go.Cw Go.Proofs
set_option linter.unusedVariables false
set_option maxRecDepth 100000
set_option maxHeartbeats 8000000
theorem c_in (s : List Int) (o : Opt) (hs : s.length ≤ 100000) : zF Tryz.prog 51 [ag o.row, .pv (.ia [.sl 1 (s.map zp)])] (fun r => r = zm (inS s o)) := by
 have hc := zhf s o.place.room hs
 refine zh tok mixed 9 rfl (fn := Tryz.f51) (c := Tryz.f51.body.getD .skip) (by kernel_rfl) (by kernel_rfl) (by kernel_rfl) rfl 0 rfl ?_
 repeat' (first | refine o1 ?_ | refine o2 ?_ | refine k1 ?_ | refine k2 ?_ | refine k7 ?_ | (change zz _ _ _ _; refine zd rfl trivial ?_) | (change zn _ _ _ _ _; refine zA rfl (by repeat' (first | trivial | refine And.intro ?_ ?_ | (show 0 + _ ≤ List.length _; simp))) zT.refl (hc) rfl ?_) | fail)
 rfl
theorem c_inAny (s : List Int) (l : List Opt) (hs : s.length ≤ 100000) (hl : l.length ≤ 100000) : zF Tryz.prog 54 [.pv (.sl 6 (l.map Opt.row)), .pv (.ia [.fn 51 [.ia [.sl 1 (s.map zp)]]])] (fun r => r = zm (l.any (inS s))) := by
 have hc := zkB l 51 [.ia [.sl 1 (s.map zp)]] (inS s) hl fun o _ => c_in s o hs
 refine zh tok mixed 7 rfl (fn := Tryz.f54) (c := Tryz.f54.body.getD .skip) (by kernel_rfl) (by kernel_rfl) (by kernel_rfl) rfl 0 rfl ?_
 repeat' (first | refine o1 ?_ | refine o2 ?_ | refine k1 ?_ | refine k2 ?_ | refine k7 ?_ | (change zz _ _ _ _; refine zd rfl trivial ?_) | (change zn _ _ _ _ _; refine zA rfl (by repeat' (first | trivial | refine And.intro ?_ ?_ | (show 0 + _ ≤ List.length _; simp))) zT.refl (hc) rfl ?_) | fail)
 rfl
theorem zpH (s : List Int) (L : List (List Opt)) (hs : s.length ≤ 100000) (hl : ∀ l ∈ L, l.length ≤ 100000) (hL : L.length ≤ 100000) : zF Tryz.prog 53 [.pv (.sl 1 (L.map zx)), .pv (.fn 54 [.ia [.fn 51 [.ia [.sl 1 (s.map zp)]]]])] (fun r => r = zf .i64 (zmw (fun l => l.any (inS s)) L)) :=
 zfB L 54 [.ia [.fn 51 [.ia [.sl 1 (s.map zp)]]]] (fun l => l.any (inS s)) hL fun l h => c_inAny s l hs (hl l h)
end Go.Proofs.YtihpjcmloecaaaaGreat.Cw
namespace Go.Proofs.YtihpjcmloecaaaaGreat.Cw
open Go Go.Cw Go.Proofs
set_option linter.unusedVariables false
set_option maxRecDepth 100000
set_option maxHeartbeats 8000000
section
variable {m : Model} {R : Int} {s : List Int} {L : List (List Opt)} {k : Nat}
theorem zl2 : ∀ {n : Nat} {l : List Int}, ∀ s ∈ zai m n l, ∃ x t, s = x :: t
 | 0, _, s, h => absurd h List.not_mem_nil
 | n + 1, [], s, h => absurd h List.not_mem_nil
 | n + 1, x :: l, s, h => by
   unfold zai at h
   rcases List.mem_append.1 h with h | h
   · split at h
     · exact absurd h List.not_mem_nil
     · exact ⟨_, _, List.mem_singleton.1 h⟩
   · exact zl2 (n := n) s h
theorem ziz (s : List Int) (h : s ∈ xf m) : ∃ x t, s = x :: t := by
 unfold xf at h
 split at h
 · exact zl2 s h
 · exact absurd h List.not_mem_nil
theorem zm9 {x0 : Int} {t : List Int} {o : Opt} (hs : s = x0 :: t) (h1 : inS s o = true) (h2 : ¬ o.place.room = x0) : zdS R s o = ⟨o.place, o.charges ++ [⟨R, zhw⟩]⟩ := by
 subst hs
 have h3 : hitS (x0 :: t) o = true := by
  unfold hitS
  rw [h1, Bool.true_and]
  exact zaM h2
 unfold zdS
 rw [if_pos h3]
theorem zkC {x0 : Int} {t : List Int} {o : Opt} (hs : s = x0 :: t) (h2 : o.place.room = x0) : zdS R s o = o := by
 subst hs
 have h3 : ¬ hitS (x0 :: t) o = true := by
  unfold hitS
  rw [zad (show ¬ o.place.room ≠ (x0 :: t).headD 0 from fun h => h h2), Bool.and_false]
  exact Bool.false_ne_true
 unfold zdS
 rw [if_neg h3]
theorem zm8 {o : Opt} (h2 : inS s o = false) : zdS R s o = o := by
 have h3 : ¬ hitS s o = true := by
  unfold hitS
  rw [h2, Bool.false_and]
  exact Bool.false_ne_true
 unfold zdS
 rw [if_neg h3]
theorem any_plc {l l' : List Opt} (h : zhj l = zhj l') : l.any (inS s) = l'.any (inS s) := by
 have e : ∀ l : List Opt, l.any (inS s) = (zhj l).any fun p => pB (p.room ∈ s) := fun l => by unfold zhj; rw [List.any_map]; rfl
 rw [e, e, h]
theorem cls_of (hok : qo m = 0) (hs : s ∈ xf m) (hL : L.map zhj = m.classes.map zhj) : ∃ A l B, L = A ++ l :: B ∧ (∀ a ∈ A, a.any (inS s) = false) ∧ l.any (inS s) = true := by
 obtain ⟨x, t, rfl⟩ := ziz s hs
 have hx := (setsV_ok hok).sub _ hs x (by simp)
 have hx := (((xi m).1 x).1 hx).2
 obtain ⟨l, hl, hxl⟩ := List.mem_flatMap.1 hx
 obtain ⟨o, ho, rfl⟩ := List.mem_map.1 hxl
 have hany : L.any (fun l => l.any (inS (o.place.room :: t))) = true := by
  have e : ∀ L : List (List Opt), L.any (fun l => l.any (inS (o.place.room :: t))) = (L.map zhj).any fun q => q.any fun p => pB (p.room ∈ o.place.room :: t) := fun L => by
   rw [List.any_map]
   congr 1
   funext l
   unfold zhj
   simp only [Function.comp, List.any_map]
   rfl
  rw [e, hL, ← e]
  exact List.any_eq_true.2 ⟨l, hl, List.any_eq_true.2 ⟨o, ho, zaM (by simp)⟩⟩
 clear hL hl hs hx hxl ho
 induction L with
 | nil => simp at hany
 | cons a L ih =>
   cases h : a.any (inS (o.place.room :: t)) with
   | true => exact ⟨[], a, L, rfl, by simp, h⟩
   | false =>
     rw [List.any_cons, h, Bool.false_or] at hany
     obtain ⟨A, l, B, rfl, h1, h2⟩ := ih hany
     refine ⟨a :: A, l, B, rfl, fun x hx => ?_, h2⟩
     rcases List.mem_cons.1 hx with rfl | hx
     · exact h
     · exact h1 x hx
theorem idx_cls {A B : List (List Opt)} {l : List Opt} (h1 : ∀ a ∈ A, a.any (inS s) = false) (h2 : l.any (inS s) = true) : zmw (fun l => l.any (inS s)) (A ++ l :: B) = A.length := by
 refine zd8 (fun j hj y hy => ?_) (x := l) (by simp) h2
 rw [List.getElem?_append_left hj] at hy
 exact h1 y (List.mem_of_getElem? hy)
theorem brkC_ch {c : Nat} (h : ∀ l ∈ L, ∀ o ∈ l, o.charges.length ≤ c) : ∀ l ∈ zlN R s L, ∀ o ∈ l, o.charges.length ≤ c + 1 := by
 induction L with
 | nil => intro l hl; cases hl
 | cons a L ih =>
   intro l hl o ho
   simp only [zlN] at hl
   split at hl
   · rcases List.mem_cons.1 hl with rfl | hl
     · obtain ⟨q, hq, rfl⟩ := List.mem_map.1 ho
       have := h a (by simp) q hq
       unfold zdS
       split
       · simp; omega
       · omega
     · have := h l (by simp [hl]) o ho; omega
   · rcases List.mem_cons.1 hl with rfl | hl
     · have := h l (by simp) o ho; omega
     · exact ih (fun l hl => h l (by simp [hl])) l hl o ho
theorem zjg : ∀ {S : List (List Int)} {L : List (List Opt)} {c : Nat}, (∀ l ∈ L, ∀ o ∈ l, o.charges.length ≤ c) → ∀ l ∈ zfJ R S L, ∀ o ∈ l, o.charges.length ≤ c + S.length
 | [], _, _, h => h
 | s :: S, L, c, h => by
   have := zjg (S := S) (L := zlN R s L) (brkC_ch h)
   intro l hl o ho
   have := this l hl o ho
   simp only [List.length_cons]; omega
theorem zkD {S : List (List Int)} : zfJ R (S ++ [s]) L = zlN R s (zfJ R S L) := by simp [zfJ]
theorem zla {L L' : List (List Opt)} (h : L.map zhj = L'.map zhj) {n : Nat} (hb : ∀ l ∈ L', l.length ≤ n) : ∀ l ∈ L, l.length ≤ n := fun l hl => by
 have h1 : zhj l ∈ L'.map zhj := h ▸ List.mem_map.2 ⟨l, hl, rfl⟩
 obtain ⟨l', h2, h3⟩ := List.mem_map.1 h1
 have := congrArg List.length h3
 unfold zhj at this
 rw [List.length_map, List.length_map] at this
 have := hb l' h2; omega
theorem zfQ : ∀ {n : Nat} {l : List Int}, (zai m n l).length ≤ l.length
 | 0, _ => Nat.zero_le _
 | n + 1, [] => Nat.le_refl _
 | n + 1, x :: l => by
   unfold zai
   have := zfQ (n := n) (l := l.filter fun b => !swB m x b)
   have h2 := List.length_filter_le (fun b => !swB m x b) l
   rw [List.length_append, List.length_cons]
   have : (if l.filter (swB m x) = [] then [] else [x :: l.filter (swB m x)]).length ≤ 1 := by split <;> simp
   omega
theorem zl1 (hz : qD m) (hok : qo m = 0) : ∀ s ∈ xf m, s.length ≤ 100000 := fun s h => by
 unfold xf at h
 rw [if_pos hok] at h
 have := zgk.2 s h
 have := zaK hz; omega
def lI (f : Opt → Opt) (l : List Opt) (i : Nat) : List Opt := (l.take i).map f ++ l.drop i
theorem lI_all {f : Opt → Opt} {l : List Opt} : lI f l l.length = l.map f := by simp [lI]
theorem lI_len {f : Opt → Opt} {l : List Opt} {i : Nat} (h : i ≤ l.length) : (lI f l i).length = l.length := by simp [lI]; omega
theorem lI_at {f : Opt → Opt} {l : List Opt} {i : Nat} {o : Opt} (h : l[i]? = some o) : (lI f l i)[i]? = some o := by
 have hi := (List.getElem?_eq_some_iff.1 h).1
 unfold lI
 rw [List.getElem?_append_right (by simp; omega)]
 simp only [List.length_map, List.length_take]
 rw [List.getElem?_drop, show i + (i - min i l.length) = i by omega, h]
theorem zoR {f : Opt → Opt} {l : List Opt} {i : Nat} {o : Opt} (h : l[i]? = some o) : lI f l (i + 1) = (lI f l i).set i (f o) := by
 have hi := (List.getElem?_eq_some_iff.1 h).1
 have hd : l.drop i = o :: l.drop (i + 1) := by
  rw [List.drop_eq_getElem_cons hi]
  congr 1
  exact Option.some.inj ((List.getElem?_eq_getElem hi).symm.trans h)
 unfold lI
 rw [List.take_succ, h, hd, List.set_append_right _ _ (by simp; omega)]
 simp only [List.length_map, List.length_take, Option.toList_some, List.map_append, List.map_cons, List.map_nil, List.append_assoc, List.singleton_append]
 rw [show i - min i l.length = 0 by omega]
 rfl
end
end Go.Proofs.YtihpjcmloecaaaaGreat.Cw
namespace Go.Proofs.YtihpjcmloecaaaaGreat.Cw
open Go Go.Cw Go.Proofs
set_option linter.unusedVariables false
set_option maxRecDepth 100000
set_option maxHeartbeats 30000000
def zeN : Model := ⟨[], [], [], 0⟩
noncomputable def xA (m : Model) : Model × Int := if qo m = 0 then (if 56 ≤ m.rules then (zeN, 2) else (brkM m, 0)) else (zeN, qo m)
theorem zps {H : zq} {P : Program} {f : FuncId} {args : List AV} {K : AV → zq → Prop} {N ty : Nat} {L : List (List Opt)} {p c : PV} {r : Int} (as0 : List AV) (hN : H.length = N) (ha : args = xY H.length [] as0)
 (hc : qb P f as0 [] (fun x H' => x = .agg [slC 0 1 (qp (shF 1) 0 L), .pv p, .pv c, .pv (ei r)] ∧ H' = obM ty 1 (qp (shF 1) 0 L) :: zW (shF 1) 0 L))
 (hK : K (.agg [slC N 1 (qp (shF (N + 1)) 0 L), .pv p, .pv c, .pv (ei r)]) (H ++ obM ty 1 (qp (shF (N + 1)) 0 L) :: zW (shF (N + 1)) 0 L)) : zn P f args H K := by
 refine zaF [] [] as0 rfl trivial ha hc fun x Hc' hp => ?_
 obtain ⟨rfl, rfl⟩ := hp
 subst hN
 refine ⟨Nat.zero_le _, ?_⟩
 have tg : ∀ (a n q : Nat), q < n → (zbr a n)[q]? = some (a + q) := fun a n => by
  induction n generalizing a with
  | zero => intro q h; omega
  | succ n ih =>
    intro q h
    cases q with
    | zero => rfl
    | succ q => simp only [zbr, List.getElem?_cons_succ]; rw [ih (a + 1) q (by omega)]; congr 1; omega
 have hlen : (obM ty 1 (qp (shF 1) 0 L) :: zW (shF 1) 0 L).length = nT L + 1 := by rw [List.length_cons, qg]
 have hg : ∀ q, q < nT L → (zbr H.length (nT L + 1)).getD (shF 1 q) 0 = shF (H.length + 1) q := fun q hq => by
  rw [List.getD_eq_getElem?_getD, show shF 1 q = q + 1 from rfl, tg _ _ _ (by omega)]
  show H.length + (q + 1) = q + (H.length + 1)
  omega
 have h0 : (zbr H.length (nT L + 1)).getD 0 0 = H.length := by rw [List.getD_eq_getElem?_getD, tg _ _ _ (by omega)]; rfl
 have e1 : (qp (shF 1) 0 L).map (xY 0 (zbr H.length (nT L + 1))) = qp (shF (H.length + 1)) 0 L := by
  rw [zaE]
  exact xx fun q _ h => hg q (by omega)
 have e2 : (zW (shF 1) 0 L).map (qx 0 (zbr H.length (nT L + 1))) = zW (shF (H.length + 1)) 0 L := by
  rw [zaj]
  exact xt fun q _ h => hg q (by omega)
 have hres : xJ 0 (zbr H.length (nT L + 1)) (.agg [slC 0 1 (qp (shF 1) 0 L), .pv p, .pv c, .pv (ei r)]) = .agg [slC H.length 1 (qp (shF (H.length + 1)) 0 L), .pv p, .pv c, .pv (ei r)] := by
  simp only [xJ, xY, xP, h0]
  rw [e1]
 have htk : zbI 0 (zbr H.length (nT L + 1)) [] (obM ty 1 (qp (shF 1) 0 L) :: zW (shF 1) 0 L) H = H ++ obM ty 1 (qp (shF (H.length + 1)) 0 L) :: zW (shF (H.length + 1)) 0 L := by
  simp only [zbI, List.map_cons, zoC]
  rw [e1, e2]
 simp only [List.length_nil, List.nil_append, Nat.sub_zero, hlen]
 rw [hres, htk]
 exact hK
theorem zjB {m : Model} (hz : qD m) (hg : zdM m) {p : Pair} (hp : p ∈ m.pairs) : p.table.length ≤ 576 := by
 obtain ⟨i, hi⟩ := List.getElem?_of_mem hp
 obtain ⟨_, _, _, ⟨a, b, ha, hb, he⟩, _⟩ := (hg.2.1 i (List.getElem?_eq_some_iff.1 hi).1 p hi).1
 rw [he]
 exact Nat.mul_le_mul (hz.2.1 a (List.mem_of_getElem? ha)) (hz.2.1 b (List.mem_of_getElem? hb))
theorem zez {e : Int} : Leq (.tup [.agg [qj, qj, qj, .pv (ei 0)], zf .i64 e]) (.tup [ag zeN.cells, zf .i64 e]) := ⟨ALe.tup ⟨ALe.agg ⟨ALe.pv PLe.nil, ALe.pv PLe.nil, ALe.pv PLe.nil, ALe.refl, trivial⟩, ALe.refl, trivial⟩⟩
theorem c_break0 (m : Model) (hl : Laid m) : zF Tryz.prog 22 [ag m.cells] (fun r => Leq r (.tup [ag (xA m).1.cells, zf .i64 (xA m).2])) := by
 have hv := zjd m hl
 have hR := zlM m hl
 by_cases hok : qo m = 0
 · by_cases h56 : 56 ≤ m.rules
   · have hbv : xA m = (zeN, 2) := by unfold xA; rw [if_pos hok, if_pos h56]
     rw [hbv]
     rw [hok] at hv
     refine zh tok mixed 87 rfl (fn := Tryz.f22) (c := Tryz.f22.body.getD .skip) (by kernel_rfl) (by kernel_rfl) (by kernel_rfl) rfl 0 rfl ?_
     repeat' (first | refine o1 ?_ | refine o2 ?_ | refine k1 ?_ | refine k2 ?_ | refine k3 ?_ | refine k6 ?_ | refine k7 ?_ | refine And.intro ?_ ?_ | (intro h; first | exact Bool.noConfusion h | exact nz _ h | exact nl h | (simp at h; done) | (simp at h; first | (exfalso; omega) | skip) | skip) | exact (by kernel_rfl : zl _ _ = true) | (change zn _ _ _ _ _; refine zA rfl (by repeat' (first | trivial | refine And.intro ?_ ?_ | (show 0 + _ ≤ List.length _; simp))) zT.refl (hv) rfl ?_) | fail)
     all_goals first
      | (exfalso; omega)
      | (change zz _ _ _ _; refine zd rfl (by repeat' (first | exact True.intro | refine And.intro ?_ ?_)) ?_; exact zez)
   · have hbv : xA m = (brkM m, 0) := by unfold xA; rw [if_pos hok, if_neg h56]
     rw [hbv]
     rw [hok] at hv
     have hz := qH hok
     have hg := zae hok
     have hch : ∀ l ∈ m.classes, ∀ o ∈ l, o.charges.length ≤ 56 := fun l h o ho => zay (hg.1 l h o ho) hz.2.2.2.2.2
     have ht := c_twin m (by have := hz.1; omega) (fun l h => by have := hz.2.1 l h; omega) (fun l h o ho => by have := hch l h o ho; omega) (by have := hz.2.2.1; omega) (fun p hp => by have := zjB hz hg hp; omega) (by have := hz.2.2.2.1; omega) (fun c hc => by have := zey hz (hg.2.2 c hc).2.2.2.2; omega)
     have hS : (xf m).length ≤ 100000 := by
      have h1 : (xf m).length ≤ (zQ m).length := by unfold xf; rw [if_pos hok]; exact zfQ
      have h2 := zaK hz
      omega
     have hSs : ∀ s ∈ xf m, s.length ≤ 100000 := fun s h => zl1 hz hok s h
     obtain ⟨MC, MP, CC, MR⟩ := m
     have hbM : brkM ⟨MC, MP, CC, MR⟩ = ⟨zfJ MR (xf ⟨MC, MP, CC, MR⟩) MC, MP, CC, MR + 1⟩ := rfl
     have hcls := fun {s L} => @cls_of ⟨MC, MP, CC, MR⟩ s L hok
     have hne := fun s => @ziz ⟨MC, MP, CC, MR⟩ s
     have hr0 : 0 ≤ MR := hz.2.2.2.2.1
     have hMC : ∀ l ∈ MC, l.length ≤ 24 := hz.2.1
     have hML : MC.length ≤ 24 := hz.1
     have h56 : MR < 56 := by dsimp only at h56; omega
     generalize xf ⟨MC, MP, CC, MR⟩ = S at *
     rw [hbM]
     clear hbM hbv hz hg hl hok
     refine zh tok mixed 87 rfl (fn := Tryz.f22) (c := Tryz.f22.body.getD .skip) (by kernel_rfl) (by kernel_rfl) (by kernel_rfl) rfl 0 rfl ?_
     repeat' (first | ((show zS _ _ _ _ (.seq (.region 6 _ _) _) _ _ _; refine zoU [(1, .ptr 0 4 0 0), (2, .ptr 1 4 0 0), (5, .ptr 2 4 0 0)] (hS0 ⟨MC, MP, CC, MR⟩ (.sl 4 (MP.map Pair.row)) (.sl 4 (CC.map Count.row)) MR none none MC) (zbK ?_) (zbK ?_))) | refine o1 ?_ | refine o2 ?_ | refine k1 ?_ | refine k2 ?_ | refine k3 ?_ | refine k6 ?_ | refine And.intro ?_ ?_ | (intro h; first | exact Bool.noConfusion h | exact nz _ h | exact nl h | (simp at h; done) | (simp at h; first | (exfalso; omega) | skip) | skip) | exact (by kernel_rfl : zl _ _ = true) | (change zn _ _ _ _ _; refine zA rfl (by repeat' (first | trivial | refine And.intro ?_ ?_ | (show 0 + _ ≤ List.length _; simp))) zT.refl (hv) rfl ?_) | fail)
     all_goals try (exfalso; omega)
     · refine ⟨?_⟩
       have hsh := fun (Γ : zr) (G : zr) hG => zls (n := 87) (Γ := Γ) (G := G) (m := ⟨MC, MP, CC, MR⟩) (P := .sl 4 (MP.map Pair.row)) (C := .sl 4 (CC.map Count.row)) (R := MR) (L := MC) hG
       rcases MC with _ | ⟨l0, L0⟩
       all_goals
        repeat' (first | ((change zn _ _ _ _ _; refine zps (N := 3) [_] rfl rfl ht ?_)) | ((change zN (zW _ _ _) _; refine zo ?_)) | ((show zC _ _ _ _ _ _; refine zbK ?_)) | refine o1 ?_ | refine o2 ?_ | refine k2 ?_ | refine And.intro ?_ ?_ | exact (by kernel_rfl : zl _ _ = true) | fail)
        refine ⟨?_⟩
        refine hsh _ _ fun d rest => ?_
        repeat' (first | exact trivial | exact rfl | refine And.intro ?_ ?_)
     · refine ⟨?_⟩
       repeat' (first | (refine zbl ?_) | ((change zN (zW _ _ _) _; refine zo ?_)) | ((change zn _ _ _ _ _; refine qn rfl (by repeat' (first | trivial | refine And.intro ?_ ?_ | (show 0 + _ ≤ List.length _; simp))) zT.refl hR ?_; rintro _ rfl)) | refine o1 ?_ | refine o2 ?_ | refine k1 ?_ | refine k2 ?_ | refine k4 ?_ | refine za ?_ | refine zc (by omega) (by omega) ?_ | fail)
       refine zy (fun k : Nat => [(1, .ptr 0 4 0 0), (2, .ptr 1 4 0 0), (5, .ptr 2 4 0 0), (29, .pv (.sl 1 (S.map qV))), (30, zf .i64 S.length), (31, zf .i64 k)]) (fun k => hS0 ⟨MC, MP, CC, MR⟩ (.sl 4 (MP.map Pair.row)) (.sl 4 (CC.map Count.row)) (MR + 1) none none (zfJ MR (S.take k) MC)) (fun k => k ≤ S.length) (fun k => S.length - k) 0 (Nat.zero_le _) ?_ ?_
       · exact zcj (by repeat (first | exact zdD | refine zcc rfl ?_))
       intro k hk
       rcases Nat.lt_or_ge k S.length with hlt | hge
       · obtain ⟨s, hs⟩ := qd hlt
         have hsS := List.mem_of_getElem? hs
         obtain ⟨x0, st0, hs0⟩ := hne s hsS
         have hsl := hSs s hsS
         have hto : S.take (k + 1) = S.take k ++ [s] := by rw [List.take_succ, hs]; rfl
         have hL1 : (zfJ MR (S.take k) MC).map zhj = MC.map zhj := zf5
         have hL2 := zla hL1 hMC
         have hL3 := zjg (R := MR) (S := S.take k) hch
         have hL4 : (zfJ MR (S.take k) MC).length ≤ 24 := by rw [zeP]; exact hML
         have hnx : zfJ MR (S.take (k + 1)) MC = zlN MR s (zfJ MR (S.take k) MC) := by rw [hto, zkD]
         generalize zfJ MR (S.take k) MC = L at *
         obtain ⟨A, l, B, rfl, hA, hl⟩ := hcls hsS hL1
         have hic := zpH s (A ++ l :: B) hsl (fun l h => by have := hL2 l h; omega) (by omega)
         rw [idx_cls hA hl] at hic
         rw [zpV hA hl] at hnx
         have hlp : 0 < l.length := by
          cases l with
          | nil => simp at hl
          | cons a t => simp
         have hcv := fun a0 a1 a2 a4 a5 a6 a7 a8 a9 ty => @conv_S0p A B l a0 a1 a2 a4 a5 a6 a7 a8 a9 ty hlp
         have hAn : A.length < zhU A B := by unfold zhU; omega
         have hfa := far_a (m := ⟨MC, MP, CC, MR⟩) (P := .sl 4 (MP.map Pair.row)) (C := .sl 4 (CC.map Count.row)) (R := MR + 1) (A := A) (l := l) (B := B)
         have hfb := fun ty z fz p => far_b (ty := ty) (z := z) (fz := fz) (p := p) (m := ⟨MC, MP, CC, MR⟩) (P := .sl 4 (MP.map Pair.row)) (C := .sl 4 (CC.map Count.row)) (R := MR + 1) (A := A) (l := l) (B := B)
         rw [zo0 hlp]
         dsimp only [hS0p] at hfa hfb ⊢
         generalize hT : zW (shF 10) 0 (A ++ l :: B) = T at *
         refine zo ?_
         repeat' (first | ((change zN T _; refine zo ?_)) | (refine zi (k := k) (zg hs) (by omega) ?_) | (refine ⟨_, zgt, ?_⟩) | ((show zS _ _ _ _ (.region 10 _ _) _ _ _; refine zL (k := 4) (qQ.room (Nat.zero_le _) (Nat.le_of_ble_eq_true rfl) (fun _ _ h => h) (show zbd 4 1 _ = true by simp [zbd, xV, far, zf, zm]) hfa) ?_)) | ((show zS _ _ _ _ (.region 11 _ _) _ _ _; refine zL (k := 5) (qQ.room (Nat.zero_le _) (Nat.le_of_ble_eq_true rfl) (fun _ _ h => h) (show zbd 5 1 _ = true by simp [zbd, xV, far, zf, zm]) (hfb _ _ _ _)) ?_)) | ((change zn _ _ _ _ _; refine zA (conv_two (hcv _ _ _ _ _ _ _ _ _ _).1 rfl) (ok_two (hcv _ _ _ _ _ _ _ _ _ _).2 (by repeat' (first | exact True.intro | refine And.intro ?_ ?_))) zT.refl hic rfl ?_)) | refine o1 ?_ | refine o2 ?_ | refine k1 ?_ | refine k2 ?_ | refine k3 ?_ | refine k4 ?_ | refine k6 ?_ | refine And.intro ?_ ?_ | (intro h; first | exact Bool.noConfusion h | exact nz _ h | exact nl h | (simp at h; done) | (simp at h; first | (exfalso; omega) | skip) | skip) | exact (by kernel_rfl : zl _ _ = true) | refine z8 ?_ | refine xc _ (by first | rfl | assumption) (by first | assumption | omega) ?_ | fail)
         refine zy (fun i : Nat => [(1, .ptr 0 4 0 0), (2, .ptr 1 4 0 0), (5, .ptr 2 4 0 0), (29, .pv (.sl 1 (S.map qV))), (30, zf .i64 S.length), (31, zf .i64 k), (7, .ptr 4 1 0 0), (8, .ptr 5 1 0 0), (9, zf .i64 A.length), (45, zf .i64 l.length), (46, zf .i64 i)]) (fun i => hS1 ⟨MC, MP, CC, MR⟩ (.sl 4 (MP.map Pair.row)) (.sl 4 (CC.map Count.row)) (MR + 1) (bxS s) bxK A (lI (zdS MR s) l i) B) (fun i => i ≤ l.length) (fun i => l.length - i) 0 (Nat.zero_le _) ?_ ?_
         · subst hT
           exact zo4 (x4 := bxS s) (x5 := bxK) zfa zfb hlp (fun d rest => by repeat' (first | exact trivial | exact rfl | refine And.intro ?_ ?_))
         intro i hi
         rcases Nat.lt_or_ge i l.length with hlt2 | hge2
         · obtain ⟨o, ho⟩ := qd hlt2
           have hoi := lI_at (f := zdS MR s) ho
           have hsu := zoR (f := zdS MR s) ho
           have hll := lI_len (f := zdS MR s) (l := l) (i := i) hi
           have hoc := hL3 l (by simp) o (List.mem_of_getElem? ho)
           have hl24 := hL2 l (by simp)
           have hSk : (S.take k).length ≤ 100000 := by rw [List.length_take]; omega
           generalize lI (zdS MR s) l i = li at *
           have hfar := far_S2 (m := ⟨MC, MP, CC, MR⟩) (P := .sl 4 (MP.map Pair.row)) (C := .sl 4 (CC.map Count.row)) (R := MR + 1) (x4 := bxS s) (x5 := bxK) (A := A) (l := li) (B := B) (i := i) (o := o) (q := nT A + i) (s := s) (.inr rfl) (.inr rfl)
           have hrow := zdz (g := gX (nT A + i) 7) (j := nT A) hoi
           rw [gX_at] at hrow
           have hrx := zo5 (A := A) (x := 7) hoi
           refine zo ?_
           repeat' (first | ((show zS _ _ _ _ (.seq (.region 15 _ _) _) _ _ _; refine zbK ?_)) | refine o1 ?_ | refine o2 ?_ | refine k1 ?_ | refine k2 ?_ | refine k3 ?_ | refine k4 ?_ | refine k6 ?_ | refine And.intro ?_ ?_ | (intro h; first | exact Bool.noConfusion h | exact nz _ h | exact nl h | (simp at h; done) | (simp at h; first | (exfalso; omega) | skip) | skip) | fail)
           all_goals try (exfalso; omega)
           refine ⟨?_⟩
           refine qc (zmB (G := [(1, .ptr 0 4 0 0), (2, .ptr 1 4 0 0), (5, .ptr 2 4 0 0), (29, .pv (.sl 1 (S.map qV))), (30, zf .i64 S.length), (31, zf .i64 k), (7, .ptr 4 1 0 0), (8, .ptr 5 1 0 0), (9, zf .i64 A.length), (45, zf .i64 l.length), (46, zf .i64 i)]) zfa zfb hoi (fun d rest => by repeat' (first | exact trivial | exact rfl | refine And.intro ?_ ?_))) ?_
           dsimp only [hS2] at hfar ⊢
           have hcal := fun (H : zq) => @conv_in o H s
           obtain ⟨pl, cs⟩ := o
           generalize zZ (gX (nT A + i) 7) (nT A) li = rows at *
           generalize hM : mid A ((zag li).set i none) none B li.length = T2 at *
           have hs00 : (s.map zp)[0]? = some (zp x0) := by rw [hs0]; rfl
           have hin := c_in s ⟨pl, cs⟩ hsl
           have hh : inS s ⟨pl, cs⟩ = true → ¬ pl.room = x0 → zdS MR s ⟨pl, cs⟩ = ⟨pl, cs ++ [⟨MR, zhw⟩]⟩ := fun h1 h2 => zm9 hs0 h1 h2
           have hn1 : pl.room = x0 → zdS MR s ⟨pl, cs⟩ = ⟨pl, cs⟩ := fun h2 => zkC hs0 h2
           have hn2 : inS s ⟨pl, cs⟩ = false → zdS MR s ⟨pl, cs⟩ = ⟨pl, cs⟩ := zm8
           have hcl : cs.length ≤ 200000 := by have : cs.length ≤ 56 + _ := hoc; omega
           rcases cs with _ | ⟨c0, C0⟩
           · repeat' (first | ((change zN T2 _; refine zo ?_)) | (refine zi hs00 rfl ?_) | (refine ⟨_, zgt, ?_⟩) | (refine ⟨_, hrow, ?_⟩) | ((show zS _ _ _ _ (.region 18 _ _) _ _ _; refine xm (k := 8) (qQ.room (Nat.zero_le _) (Nat.le_of_ble_eq_true rfl) (fun _ _ h => h) (show zbd 8 2 _ = true by simp [zbd, xV, far, zf, zm, chC]) hfar) ?_)) | (refine zw (rows.set i (zdQ (.ms 9 2 0 1) pl)) rfl ?_) | ((change zI _ _ _ _ _; refine zD (hcal _ rfl rfl).1 (hcal _ rfl rfl).2 zT.refl hin rfl ?_)) | refine o1 ?_ | refine o2 ?_ | refine k1 ?_ | refine k2 ?_ | refine k3 ?_ | refine k6 ?_ | refine And.intro ?_ ?_ | refine o3 ?_ | refine o4 ?_ | (intro h; first | exact Bool.noConfusion h | exact nz _ h | exact nl h | (simp at h; done) | (simp at h; first | (exfalso; omega) | skip) | skip) | (refine (?_ : qt _ = zb _); rfl) | exact Nat.le_of_ble_eq_true rfl | exact (by kernel_rfl : zl _ _ = true) | refine z8 ?_ | refine zc (by omega) (by omega) ?_ | refine zw _ (xG rfl) (zw 1 rfl ?_) | refine xc _ (by first | rfl | assumption) (by first | assumption | omega) ?_ | fail)
             all_goals try (focus
              have hb : zdS MR s _ = _ := (by first | exact hn2 (by assumption) | exact hn1 (by assumption))
              rw [hb] at hsu
              subst hM
              refine ⟨i + 1, hlt2, by omega, ?_⟩
              refine zbC (x := 7) ⟨by decide, by decide⟩ zfa zfb hoi rfl hrx (by first | exact .inl rfl | exact .inr rfl) hsu (fun d rest => ?_)
              repeat' (first | exact trivial | exact rfl | refine And.intro ?_ ?_))
             have hb := hh (by assumption) (by assumption)
             rw [hb] at hsu
             subst hM
             refine ⟨i + 1, hlt2, by omega, ?_⟩
             refine zbC (x := 9) (o' := ⟨pl, ([] : List Charge) ++ [⟨MR, zhw⟩]⟩) ⟨by decide, by decide⟩ zfa zfb hoi rfl ?_ (.inr rfl) hsu (fun d rest => ?_)
             · rw [hrx, List.set_set]; simp [chC]
             · repeat' (first | exact trivial | exact rfl | refine And.intro ?_ ?_)
           · simp only [List.length_cons] at hcl
             repeat' (first | ((change zN T2 _; refine zo ?_)) | (refine zi hs00 rfl ?_) | (refine ⟨_, zgt, ?_⟩) | (refine ⟨_, hrow, ?_⟩) | ((show zS _ _ _ _ (.region 18 _ _) _ _ _; refine xm (k := 8) (qQ.room (Nat.zero_le _) (Nat.le_of_ble_eq_true rfl) (fun _ _ h => h) (show zbd 8 2 _ = true by simp [zbd, xV, far, zf, zm, chC]) hfar) ?_)) | (refine zw (rows.set i (zdQ (.ms 9 2 0 (C0.length + 2)) pl)) rfl ?_) | (refine zw _ (zbp (f := Charge.row) (l := c0 :: C0) (y := ⟨MR, zhw⟩) rfl) (zw (C0.length + 2) (by simp [zb]) ?_)) | ((show zb _ * _ ≤ _; simp [zb]; omega)) | ((show zb _ ≤ _; simp [zb]; omega)) | ((change zI _ _ _ _ _; refine zD (hcal _ rfl rfl).1 (hcal _ rfl rfl).2 zT.refl hin rfl ?_)) | refine o1 ?_ | refine o2 ?_ | refine k1 ?_ | refine k2 ?_ | refine k3 ?_ | refine k6 ?_ | refine And.intro ?_ ?_ | refine o3 ?_ | refine o4 ?_ | (intro h; first | exact Bool.noConfusion h | exact nz _ h | exact nl h | (simp at h; done) | (simp at h; first | (exfalso; omega) | skip) | skip) | (refine (?_ : qt _ = zb _); rfl) | exact Nat.le_of_ble_eq_true rfl | exact (by kernel_rfl : zl _ _ = true) | refine z8 ?_ | refine zc (by omega) (by omega) ?_ | (refine (?_ : _ = zb _); simp [zb] <;> omega) | refine xc _ (by first | rfl | assumption) (by first | assumption | omega) ?_ | fail)
             all_goals try (focus
              have hb : zdS MR s _ = _ := (by first | exact hn2 (by assumption) | exact hn1 (by assumption))
              rw [hb] at hsu
              subst hM
              refine ⟨i + 1, hlt2, by omega, ?_⟩
              refine zbC (x := 7) ⟨by decide, by decide⟩ zfa zfb hoi rfl hrx (by first | exact .inl rfl | exact .inr rfl) hsu (fun d rest => ?_)
              repeat' (first | exact trivial | exact rfl | refine And.intro ?_ ?_))
             have hb := hh (by assumption) (by assumption)
             rw [hb] at hsu
             subst hM
             refine ⟨i + 1, hlt2, by omega, ?_⟩
             refine zbC (x := 9) (o' := ⟨pl, c0 :: C0 ++ [⟨MR, zhw⟩]⟩) ⟨by decide, by decide⟩ zfa zfb hoi rfl ?_ (.inr rfl) hsu (fun d rest => ?_)
             · rw [hrx, List.set_set]; simp [chC]
             · repeat' (first | exact trivial | exact rfl | refine And.intro ?_ ?_)
         · obtain rfl : i = l.length := by omega
           rw [lI_all]
           have hll : (l.map (zdS MR s)).length = l.length := List.length_map _
           refine zo ?_
           repeat' (first | refine o1 ?_ | refine o2 ?_ | refine k1 ?_ | refine k2 ?_ | refine k3 ?_ | refine k8 ?_ | refine And.intro ?_ ?_ | (intro h; first | exact Bool.noConfusion h | exact nz _ h | exact nl h | (simp at h; done) | (simp at h; first | (exfalso; omega) | skip) | skip) | refine zc (by omega) (by omega) ?_ | fail)
           all_goals try (exfalso; omega)
           refine ⟨k + 1, hlt, by omega, ?_⟩
           rw [hnx]
           refine zmC (x4 := bxS s) (x5 := bxK) (by omega) (fun d rest => ?_)
           repeat' (first | exact trivial | exact rfl | refine And.intro ?_ ?_)
       · obtain rfl : k = S.length := by omega
         have hlt' : S.take S.length = S := List.take_length
         rw [hlt']
         generalize zfJ MR S MC = L
         have hcv := fun a0 a1 a2 a4 a5 a6 a7 a8 a9 ty => @zlv L a0 a1 a2 a4 a5 a6 a7 a8 a9 ty
         have hfin : ∀ (x1 : Option AObj) (y : AV), y = slC 3 1 (qp (shF 10) 0 L) → zz 0 (.tup [.agg [y, .pv (.sl 4 (MP.map Pair.row)), .pv (.sl 4 (CC.map Count.row)), .pv (ei (MR + 1))], zf .i64 0]) (zdT ⟨MC, MP, CC, MR⟩ :: x1 :: zdt y (.pv (.sl 4 (MP.map Pair.row))) (.pv (.sl 4 (CC.map Count.row))) (MR + 1) :: obM 51 1 (qp (shF 10) 0 L) :: none :: none :: none :: none :: none :: none :: zW (shF 10) 0 L) (fun r H' => H' = [] ∧ Leq r (.tup [ag (⟨L, MP, CC, MR + 1⟩ : Model).cells, zf .i64 0])) := fun x1 y hy => by
          subst hy
          have h1 := (hcv (zdT ⟨MC, MP, CC, MR⟩) x1 (zdt (slC 3 1 (qp (shF 10) 0 L)) (.pv (.sl 4 (MP.map Pair.row))) (.pv (.sl 4 (CC.map Count.row))) (MR + 1)) none none none none none none 51)
          refine zd (r0 := .tup [ag (⟨L, MP, CC, MR + 1⟩ : Model).cells, zf .i64 0]) ?_ ?_ ⟨ALe.refl⟩
          · simp only [zch, zdp, zap, h1.1, qm]
            rfl
          · refine ⟨?_, trivial⟩
            show zaV (okC _ 5) [slC 3 1 (qp (shF 10) 0 L), _, _, _]
            rw [zeQ fun p => trivial]
            exact ⟨h1.2, trivial⟩
         clear hcv
         rcases L with _ | ⟨l0, L0⟩
         all_goals
          refine zo ?_
          repeat' (first | (refine zbl ?_) | ((change zN (zW _ _ _) _; refine zo ?_)) | ((change zz _ _ _ _; refine hfin _ _ rfl)) | refine o1 ?_ | refine o2 ?_ | refine k1 ?_ | refine k2 ?_ | refine k3 ?_ | refine k7 ?_ | refine k8 ?_ | refine And.intro ?_ ?_ | (intro h; first | exact Bool.noConfusion h | exact nz _ h | exact nl h | (simp at h; done) | (simp at h; first | (exfalso; omega) | skip) | skip) | fail)
          all_goals first
           | (exfalso; omega)
 · have hbv : xA m = (zeN, qo m) := by unfold xA; rw [if_neg hok]
   rw [hbv]
   refine zh tok mixed 87 rfl (fn := Tryz.f22) (c := Tryz.f22.body.getD .skip) (by kernel_rfl) (by kernel_rfl) (by kernel_rfl) rfl 0 rfl ?_
   repeat' (first | refine o1 ?_ | refine o2 ?_ | refine k1 ?_ | refine k2 ?_ | refine k3 ?_ | refine k7 ?_ | refine And.intro ?_ ?_ | (intro h; first | exact Bool.noConfusion h | exact nz _ h | exact nl h | (simp at h; done) | (simp at h; first | (exfalso; omega) | skip) | skip) | exact (by kernel_rfl : zl _ _ = true) | (change zn _ _ _ _ _; refine zA rfl (by repeat' (first | trivial | refine And.intro ?_ ?_ | (show 0 + _ ≤ List.length _; simp))) zT.refl (hv) rfl ?_) | fail)
   all_goals first
    | (exfalso; omega)
    | (change zz _ _ _ _; refine zd rfl (by repeat' (first | exact True.intro | refine And.intro ?_ ?_)) ?_; exact zez)
theorem c_break (m : Model) (hl : Laid m) : zF Tryz.prog 22 [ag m.cells] (fun r => r = .tup [ag (xA m).1.cells, zf .i64 (xA m).2]) := (c_break0 m hl).weak fun r k => ⟨_, k.le, rfl⟩
end Go.Proofs.YtihpjcmloecaaaaGreat.Cw
namespace Go.Proofs.YtihpjcmloecaaaaGreat.Cw
open Go Go.Cw Go.Proofs
set_option linter.unusedVariables false
section
variable {E : List (Int × Int)} {g : Int → Int}
end
structure CanI (S : List (List Int)) (E : List (Int × Int)) : Prop where
 keys : E.Pairwise fun e f => e.1 ≠ f.1
 vals : E.Pairwise fun e f => e.2 ≠ f.2
 same : ∀ e ∈ E, ∃ s ∈ S, e.1 ∈ s ∧ e.2 ∈ s
section
variable {m : Model} {R : List Int} {S : List (List Int)} {E : List (Int × Int)} {s : List Int} {r : Int}
end
end Go.Proofs.YtihpjcmloecaaaaGreat.Cw
namespace Go.Proofs.YtihpjcmloecaaaaGreat.Cw
open Go Go.Cw Go.Proofs
set_option linter.unusedVariables false
def rmAt (m : Model) (plan : List Int) (j : Nat) : Int := match plan[j]?, m.classes[j]? with
 | some o, some l => if o < 0 then -1 else match l[o.toNat]? with
   | some q => q.place.room
   | none => -1
 | _, _ => -1
section
variable {m : Model} {plan : List Int} {R : List Int} {S : List (List Int)}
noncomputable def canL (m : Model) (plan : List Int) (S : List (List Int)) : List Int := (zf4 m plan S plan.length).1
def plI (s : List Int) (t : Int) : Int := if t ∈ s then ((s.idxOf t : Nat) : Int) else -1
def toA (E : List (Int × Int)) (s : List Int) : List Int := s.map fun x => match toF E x with
 | some t => plI s t
 | none => -1
def tkA (E : List (Int × Int)) (s : List Int) : List Bool := s.map (zbj E)
noncomputable def outR (m : Model) (plan : List Int) (S : List (List Int)) (k c : Nat) : List Int := (List.range plan.length).map fun j =>
 if pB ((∃ s ∈ S.take k, rmAt m plan j ∈ s) ∨ (j < c ∧ ∃ s, S[k]? = some s ∧ rmAt m plan j ∈ s)) then (canL m plan S).getD j 0 else plan.getD j 0
end
end Go.Proofs.YtihpjcmloecaaaaGreat.Cw
