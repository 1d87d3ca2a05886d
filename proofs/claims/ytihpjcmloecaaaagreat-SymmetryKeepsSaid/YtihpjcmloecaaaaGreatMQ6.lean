/-
  Part 6 of the proof (SYJ, SYK, SYL, SYM, SYN, M8, SW2, SW3, SC1, SB6, SB5, SB7, SB8, SB9, SC2, SC3, SD0, SD2, SM1): what later parts use. No conditions.
-/
import Derived.Test.YtihpjcmloecaaaaGreatMQ5
/-
  Symmetry, plain: exchanges of rooms compose.
-/
namespace Go.Proofs.YtihpjcmloecaaaaGreat.Cw
open Go Go.Cw Go.Proofs
set_option linter.unusedVariables false
set_option maxRecDepth 100000
theorem img_comp {l : List Opt} {i j : Nat} {r s : Int} (h : imgO l i r = some j) : imgO l j s = imgO l i s := by
  obtain ⟨o, ho⟩ : ∃ o, l[i]? = some o := by
    cases e : l[i]? with
    | some o => exact ⟨o, rfl⟩
    | none => unfold imgO at h; rw [e] at h; cases h
  have hj := img_lt h
  obtain ⟨q, hq⟩ := getE hj
  unfold imgO at h ⊢
  rw [ho] at h
  rw [ho, hq]
  dsimp only at h ⊢
  obtain ⟨o1, k1, k2⟩ := placed_iff.1 (sameP_mem.1 (List.mem_of_getElem? h)).2
  rw [hq] at k1; cases k1
  have h2 := sameP_at (placed_t hq rfl) hj
  rw [k2] at h2 ⊢
  have hnd := sameP_nodup (l := l) (p := withRoom o.place r) (n := l.length)
  have hK : (sameP l (withRoom o.place r) j).length = (sameP l o.place i).length := by
    obtain ⟨b1, e1⟩ := List.getElem?_eq_some_iff.1 h
    obtain ⟨b2, e2⟩ := List.getElem?_eq_some_iff.1 h2
    rcases Nat.lt_trichotomy (sameP l o.place i).length (sameP l (withRoom o.place r) j).length with h | h | h
    · exact absurd (e1.trans e2.symm) (List.pairwise_iff_getElem.1 hnd _ _ b1 b2 h)
    · exact h.symm
    · exact absurd (e2.trans e1.symm) (List.pairwise_iff_getElem.1 hnd _ _ b2 b1 h)
  rw [hK]; rfl
theorem img_room {l : List Opt} {i j : Nat} {r : Int} {q : Opt} (h : imgO l i r = some j) (hq : l[j]? = some q) : q.place.room = r := by
  unfold imgO at h
  split at h
  · obtain ⟨o1, k1, k2⟩ := placed_iff.1 (sameP_mem.1 (List.mem_of_getElem? h)).2
    rw [hq] at k1; cases k1
    rw [k2]; rfl
  · cases h
theorem exch_comp {x a b c : Int} (h1 : a ≠ b) (h2 : a ≠ c) (h3 : b ≠ c) : exch (exch (exch x a c) b c) a c = exch x a b := by
  unfold exch
  grind
theorem ok_comp {l : List Opt} {a b c : Int} (h1 : a ≠ b) (h2 : a ≠ c) (h3 : b ≠ c) (hac : imgsP l a c) (hbc : imgsP l b c) {i : Nat} (hi : i < l.length) :
    okO l a b i ∧ imN l a b i = imN l a c (imN l b c (imN l a c i)) := by
  obtain ⟨i1, o, q1, e1, e2, e3, e4⟩ := hac i hi
  have hi1 := (List.getElem?_eq_some_iff.1 e3).1
  obtain ⟨i2, o', q2, f1, f2, f3, f4⟩ := hbc i1 hi1
  rw [e3] at f2; cases f2
  have hi2 := (List.getElem?_eq_some_iff.1 f3).1
  obtain ⟨i3, o', q3, g1, g2, g3, g4⟩ := hac i2 hi2
  rw [f3] at g2; cases g2
  have n1 : imN l a c i = i1 := by unfold imN; rw [e1]; rfl
  have n2 : imN l b c i1 = i2 := by unfold imN; rw [f1]; rfl
  have n3 : imN l a c i2 = i3 := by unfold imN; rw [g1]; rfl
  rw [swap_of e2 rfl] at e1
  rw [swap_of e3 rfl] at f1
  rw [swap_of f3 rfl] at g1
  have r1 := img_room e1 e3
  have r2 := img_room f1 f3
  rw [img_comp f1, img_comp e1, r2, r1, exch_comp h1 h2 h3] at g1
  have hs : swapO l a b i = some i3 := by rw [swap_of e2 rfl]; exact g1
  refine ⟨⟨i3, o, q3, hs, e2, g3, e4.trans (f4.trans g4)⟩, ?_⟩
  rw [n1, n2, n3]
  unfold imN; rw [hs]; rfl
section
variable {m : Model} {a b c : Int}
theorem optC_perm {g : Load → Int} {x y : Count} (h1 : x.rule = y.rule) (h2 : x.most = y.most) (h3 : x.penalty = y.penalty) (h4 : x.loads.Perm y.loads) : optC g x = optC g y := by
  unfold optC
  rw [h1, h2, h3, (srt_eq totLd).2 (h4.map (optL g))]
theorem optC_norm {g : Load → Int} (x : Count) : optC g (optC Load.opt x) = optC g x := by
  refine optC_perm rfl rfl rfl ?_
  have : (optL Load.opt) = id := rfl
  show (srt ldC (x.loads.map (optL Load.opt))).Perm _
  rw [this, List.map_id]
  exact srt_perm _
theorem imLoad_comp (h1 : a ≠ b) (h2 : a ≠ c) (h3 : b ≠ c) (hac : allImg m a c) (hbc : allImg m b c) {x : Load} (hx : optionP m x.cls x.opt) :
    optL (imLoad m a b) x = optL (imLoad m a c) (optL (imLoad m b c) (optL (imLoad m a c) x)) := by
  obtain ⟨k1, k2, l, k3, k4⟩ := hx
  have hl := List.mem_of_getElem? k3
  have e : ∀ (d f : Int) (y : Load), y.cls = x.cls → imLoad m d f y = (imN l d f y.opt.toNat : Int) := fun d f y hy => by unfold imLoad; rw [hy, k3]
  have hc := (ok_comp h1 h2 h3 (hac l hl) (hbc l hl) (i := x.opt.toNat) (by omega)).2
  show (⟨x.cls, imLoad m a b x, x.weight⟩ : Load) = ⟨x.cls, imLoad m a c (optL (imLoad m b c) (optL (imLoad m a c) x)), x.weight⟩
  have e1 := e a b x rfl
  have e2 := e a c (optL (imLoad m b c) (optL (imLoad m a c) x)) rfl
  have e3 := e b c (optL (imLoad m a c) x) rfl
  have e4 := e a c x rfl
  have o1 : (optL (imLoad m a c) x).opt = (imN l a c x.opt.toNat : Int) := e4
  have o2 : (optL (imLoad m b c) (optL (imLoad m a c) x)).opt = (imN l b c (imN l a c x.opt.toNat) : Int) := by
    show imLoad m b c (optL (imLoad m a c) x) = _
    rw [e3, o1]; rfl
  rw [e1, e2, o2, hc]; rfl
theorem optC_comp (h1 : a ≠ b) (h2 : a ≠ c) (h3 : b ≠ c) (hac : allImg m a c) (hbc : allImg m b c) {x : Count} (hx : ∀ l ∈ x.loads, optionP m l.cls l.opt) :
    optC (imLoad m a b) x = optC (imLoad m a c) (optC (imLoad m b c) (optC (imLoad m a c) x)) := by
  have e : x.loads.map (optL (imLoad m a b)) = ((x.loads.map (optL (imLoad m a c))).map (optL (imLoad m b c))).map (optL (imLoad m a c)) := by
    rw [List.map_map, List.map_map]
    exact List.map_congr_left fun y hy => imLoad_comp h1 h2 h3 hac hbc (hx y hy)
  show (⟨x.rule, _, x.most, x.penalty⟩ : Count) = ⟨x.rule, _, x.most, x.penalty⟩
  congr 1
  rw [srt_eq totLd, e]
  refine List.Perm.map _ ?_
  show (List.map (optL (imLoad m b c)) _).Perm (srt ldC (List.map (optL (imLoad m b c)) (srt ldC _)))
  exact ((srt_perm _).symm.map _).trans (srt_perm _).symm
theorem swap_trans (hz : sizedP m) (hg : goodP m) (h1 : a ≠ b) (h2 : a ≠ c) (h3 : b ≠ c) (hac : swapP m a c) (hbc : swapP m b c) : swapP m a b := by
  obtain ⟨i1, e1, c1⟩ := hac
  obtain ⟨i2, e2, c2⟩ := hbc
  refine ⟨fun l hl i hi => (ok_comp h1 h2 h3 (i1 l hl) (i2 l hl) hi).1, fun p hp x y hx hy i hi k hk => ?_, ?_⟩
  · have hxm := List.mem_of_getElem? hx
    have hym := List.mem_of_getElem? hy
    rw [(ok_comp h1 h2 h3 (i1 x hxm) (i2 x hxm) hi).2, (ok_comp h1 h2 h3 (i1 y hym) (i2 y hym) hk).2]
    have a1 := (ok_imN (i1 x hxm i hi)).2
    have a2 := (ok_imN (i1 y hym k hk)).2
    have b1 := (ok_imN (i2 x hxm _ a1)).2
    have b2 := (ok_imN (i2 y hym _ a2)).2
    exact (e1 p hp x y hx hy i hi k hk).trans ((e2 p hp x y hx hy _ a1 _ a2).trans (e1 p hp x y hx hy _ b1 _ b2))
  · rw [cnt_iff] at c1 c2 ⊢
    have hm : m.counts.map (optC (imLoad m a b)) = ((m.counts.map (optC (imLoad m a c))).map (optC (imLoad m b c))).map (optC (imLoad m a c)) := by
      rw [List.map_map, List.map_map]
      exact List.map_congr_left fun x hx => optC_comp h1 h2 h3 i1 i2 fun l hl => (good_load hg hx hl).1
    have hN : ∀ g, (m.counts.map (optC Load.opt)).map (optC g) = m.counts.map (optC g) := fun g => by
      rw [List.map_map]
      exact List.map_congr_left fun x _ => optC_norm x
    rw [hm]
    have p1 := (c1.map (optC (imLoad m b c)))
    rw [hN] at p1
    have p2 := (p1.trans c2).map (optC (imLoad m a c))
    rw [hN] at p2
    exact p2.trans c1
end
end Go.Proofs.YtihpjcmloecaaaaGreat.Cw
/-
  Symmetry: the sets of rooms that can be exchanged, by the program.
-/
namespace Go.Proofs.YtihpjcmloecaaaaGreat.Cw
open Go Go.Cw Go.Proofs
set_option linter.unusedVariables false
set_option maxRecDepth 100000
set_option maxHeartbeats 8000000
noncomputable def swB (m : Model) (x b : Int) : Bool := pB (swapP m x b)
noncomputable def setsF (m : Model) : Nat → List Int → List (List Int)
  | 0, _ => []
  | _ + 1, [] => []
  | n + 1, x :: l => (if l.filter (swB m x) = [] then [] else [x :: l.filter (swB m x)]) ++ setsF m n (l.filter fun b => !swB m x b)
noncomputable def setsV (m : Model) : List (List Int) := if modelE m = 0 then setsF m (roomsV m).length (roomsV m) else []
theorem sets_zero {m : Model} : ∀ {n : Nat}, setsF m n [] = []
  | 0 => rfl
  | _ + 1 => rfl
theorem sets_fuel {m : Model} : ∀ {n k : Nat} {l : List Int}, l.length ≤ n → l.length ≤ k → setsF m n l = setsF m k l
  | n, k, [], _, _ => by rw [sets_zero, sets_zero]
  | 0, _, x :: l, h, _ => by simp at h
  | _, 0, x :: l, _, h => by simp at h
  | n + 1, k + 1, x :: l, h1, h2 => by
    unfold setsF
    have := List.length_filter_le (fun b => !swB m x b) l
    simp only [List.length_cons] at h1 h2
    rw [sets_fuel (n := n) (k := k) (by omega) (by omega)]
theorem filt_sum {α : Type} {p : α → Bool} : ∀ {l : List α}, (l.filter p).length + (l.filter fun x => !p x).length = l.length
  | [] => rfl
  | x :: l => by
    have ih := filt_sum (p := p) (l := l)
    cases h : p x <;> simp [h] <;> omega
def lstRow (l : List Int) : List PV := [.sl 1 (l.map intRow)]
def slS (x : Int) (F : List Int) : AV := match F with
  | [] => .clip 1 [intRow x]
  | _ :: _ => .ms 2 1 0 (F.length + 1)
def obS (x : Int) (F : List Int) : Option AObj := match F with
  | [] => none
  | _ :: _ => some ⟨3, 1, false, .p ((x :: F).map intRow)⟩
theorem clip_le {z : Nat} {xs : List (List PV)} : ALe (.clip z xs) (.pv (.sl z xs)) := fun I β w v h => by
  cases h with
  | clip h => exact .pv h
theorem c_Rooms0 (m : Model) (hl : Laid m) : PCall Tryz.prog 16 [ag m.cells] (fun r => Leq r (.pv (.sl 1 ((setsV m).map lstRow)))) := by
  have hv := c_valid m hl
  by_cases hok : modelE m = 0
  · have hz := model_sized hok
    have hg := model_good hok
    have hnu := c_numbers m hz
    have hVl := rooms_len hz
    have e : setsV m = setsF m (roomsV m).length (roomsV m) := if_pos hok
    rw [e]
    rw [hok] at hv
    refine acall_of tok mixed 56 rfl (fn := Tryz.f16) (c := Tryz.f16.body.getD .skip) (by kernel_rfl) (by kernel_rfl) (by kernel_rfl) rfl 0 rfl ?_
    repeat' (first | ((change vcFun _ _ _ _ _; refine call_frz rfl (by repeat' (first | trivial | refine And.intro ?_ ?_ | (show 0 + _ ≤ List.length _; simp))) ALeL.refl hnu ?_; rintro _ rfl)) | refine o1 ?_ | refine o2 ?_ | refine k1 ?_ | refine k2 ?_ | refine k3 ?_ | refine k4 ?_ | refine k6 ?_ | refine And.intro ?_ ?_ | (intro h; first | exact Bool.noConfusion h | exact nz _ h | exact nl h | (simp at h; done) | (simp at h; first | (exfalso; omega) | skip) | skip) | (change vcFun _ _ _ _ _; refine call_eq rfl (by repeat' (first | trivial | refine And.intro ?_ ?_ | (show 0 + _ ≤ List.length _; simp))) ALeL.refl (hv) rfl ?_) | fail)
    refine loop_for (fun x : List Int × List (List Int) => [(1, .ptr 0 4 0 0), (3, slP 1 1 (x.2.map lstRow)), (4, .pv (.sl 1 (x.1.map intRow)))])
      (fun x => [some ⟨29, 4, false, .box (pvs m.cells)⟩, obP 22 1 (x.2.map lstRow)])
      (fun x => x.1.length ≤ 576 ∧ x.2.length + x.1.length ≤ 576 ∧ x.2 ++ setsF m x.1.length x.1 = setsF m (roomsV m).length (roomsV m)) (fun x => x.1.length) (roomsV m, []) ⟨hVl, by simpa using hVl, rfl⟩ ?_ ?_
    · exact back [0, 1] rfl rfl (by repeat' (first | exact trivial | exact rfl | refine And.intro ?_ ?_)) (by repeat' (first | exact trivial | exact rfl | refine And.intro ?_ ?_))
    rintro ⟨L, OUT⟩ ⟨h1, h2, h3⟩
    dsimp only at h1 h2 h3 ⊢
    rcases L with _ | ⟨x, l⟩
    · rw [sets_zero, List.append_nil] at h3
      rw [← h3]
      repeat' (first | (refine fv_sl ?_) | (refine fh_ob ?_) | refine o1 ?_ | refine o2 ?_ | refine k1 ?_ | refine k2 ?_ | refine k3 ?_ | refine k7 ?_ | refine k8 ?_ | refine And.intro ?_ ?_ | (intro h; first | exact Bool.noConfusion h | exact nz _ h | exact nl h | (simp at h; done) | (simp at h; first | (exfalso; omega) | skip) | skip) | refine eqv_len_map ?_ | fail)
      exact ret_sl rfl ⟨ALe.refl⟩ leq_down
    · have hsl : ∀ n, (l.filter fun b => !swB m x b).length ≤ n → setsF m n (l.filter fun b => !swB m x b) = setsF m (l.filter fun b => !swB m x b).length (l.filter fun b => !swB m x b) := fun n hn => sets_fuel hn (Nat.le_refl _)
      have hln : l.length ≤ 575 := by simpa using h1
      have hdr : List.drop 1 (List.take (List.map intRow (x :: l)).length (List.map intRow (x :: l))) = l.map intRow := by rw [List.take_length]; rfl
      repeat' (first | (refine fh_ob ?_) | (refine ⟨1, (by simp), rfl, rfl, ?_⟩) | (refine ⟨1, (List.map intRow (x :: l)).length, rfl, rfl, (by simp), Nat.le_refl _, ?_⟩) | (refine eqv_to (l.map intRow) hdr ?_) | refine o1 ?_ | refine o2 ?_ | refine k1 ?_ | refine k2 ?_ | refine k3 ?_ | refine k4 ?_ | refine k6 ?_ | refine And.intro ?_ ?_ | (intro h; first | exact Bool.noConfusion h | exact nz _ h | exact nl h | (simp at h; done) | (simp at h; first | (exfalso; omega) | skip) | skip) | refine eqv_len_map ?_ | fail)
      refine loop_for (fun k : Nat => [(1, .ptr 0 4 0 0), (3, slP 1 1 (OUT.map lstRow)), (4, .pv (.sl 1 ((x :: l).map intRow))), (5, slS x ((l.take k).filter (swB m x))), (6, slP 3 1 (((l.take k).filter fun b => !swB m x b).map intRow)), (22, .pv (.sl 1 (l.map intRow))), (23, vint .i64 l.length), (24, vint .i64 k)])
        (fun k => [some ⟨29, 4, false, .box (pvs m.cells)⟩, obP 22 1 (OUT.map lstRow), obS x ((l.take k).filter (swB m x)), obP 3 1 (((l.take k).filter fun b => !swB m x b).map intRow)])
        (fun k => k ≤ l.length) (fun k => l.length - k) 0 (Nat.zero_le _) ?_ ?_
      · exact back [0, 1, 2, 3] rfl rfl (by repeat' (first | exact trivial | exact rfl | refine kept_ob rfl ?_ | refine And.intro ?_ ?_)) (by repeat' (first | exact trivial | exact rfl | exact ren_get rfl | refine And.intro ?_ ?_))
      intro k hk
      rcases Nat.lt_or_ge k l.length with hkl | hkg
      · obtain ⟨b, hb⟩ := getE hkl
        have hsw := c_swapM m x b hz hg
        have hFl : ((l.take k).filter (swB m x)).length ≤ 575 := Nat.le_trans (List.length_filter_le ..) (Nat.le_trans (List.length_take_le' ..) hln)
        have hGl : ((l.take k).filter fun b => !swB m x b).length ≤ 575 := Nat.le_trans (List.length_filter_le ..) (Nat.le_trans (List.length_take_le' ..) hln)
        have hF1 : (l.take (k + 1)).filter (swB m x) = if swB m x b then (l.take k).filter (swB m x) ++ [b] else (l.take k).filter (swB m x) := by
          rw [tk_snoc hb, List.filter_append]; by_cases h : swB m x b = true <;> simp [h]
        have hG1 : ((l.take (k + 1)).filter fun b => !swB m x b) = if swB m x b then ((l.take k).filter fun b => !swB m x b) else ((l.take k).filter fun b => !swB m x b) ++ [b] := by
          rw [tk_snoc hb, List.filter_append]; by_cases h : swB m x b = true <;> simp [h]
        generalize hFF : (l.take k).filter (swB m x) = F at *
        generalize hGG : ((l.take k).filter fun b => !swB m x b) = G at *
        by_cases hP : swapP m x b
        · have hS : swB m x b = true := pB_t hP
          rw [if_pos hS] at hF1 hG1
          rw [pB_t hP] at hsw
          rcases F with _ | ⟨a, F⟩
          · repeat' (first | (refine fh_ob ?_) | (refine idx_sl (k := k) (at_map hb) rfl ?_) | (refine idx_sl (k := 0) (r := intRow x) rfl rfl ?_) | ((change vcFunD _ _ _ _ _; refine callD_eq rfl (by repeat' (first | trivial | refine And.intro ?_ ?_ | (show 0 + _ ≤ List.length _; simp))) ALeL.refl hsw rfl ?_)) | (refine eqv_to (Rows.p ([x, b].map intRow)) rfl (eqv_to 2 rfl ?_)) | refine o1 ?_ | refine o2 ?_ | refine k1 ?_ | refine k2 ?_ | refine k3 ?_ | refine k4 ?_ | refine k6 ?_ | refine And.intro ?_ ?_ | refine o3 ?_ | refine o4 ?_ | (intro h; first | exact Bool.noConfusion h | exact nz _ h | exact nl h | (simp at h; done) | (simp at h; first | (exfalso; omega) | skip) | skip) | (refine (?_ : srcLen _ = rowsLen _); rfl) | exact Nat.le_of_ble_eq_true rfl | exact (by kernel_rfl : drawOk _ _ = true) | refine eqv_wrap (by omega) (by omega) ?_ | fail)
            refine ⟨k + 1, by omega, by omega, ?_⟩
            rw [hF1, hG1]
            exact back [0, 1, 5, 3] rfl rfl (by repeat' (first | exact trivial | exact rfl | refine kept_ob rfl ?_ | refine And.intro ?_ ?_)) (by repeat' (first | exact trivial | exact rfl | exact ren_get rfl | refine And.intro ?_ ?_))
          · repeat' (first | (refine fh_ob ?_) | (refine idx_sl (k := k) (at_map hb) rfl ?_) | (refine idx_sl (k := 0) (r := intRow x) rfl rfl ?_) | ((change vcFunD _ _ _ _ _; refine callD_eq rfl (by repeat' (first | trivial | refine And.intro ?_ ?_ | (show 0 + _ ≤ List.length _; simp))) ALeL.refl hsw rfl ?_)) | ((show rowsLen _ * _ ≤ _; simp [rowsLen] at *; omega)) | ((show rowsLen _ ≤ _; simp [rowsLen] at *; omega)) | refine o1 ?_ | refine o2 ?_ | refine k1 ?_ | refine k2 ?_ | refine k3 ?_ | refine k4 ?_ | refine k6 ?_ | refine And.intro ?_ ?_ | refine o3 ?_ | refine o4 ?_ | (intro h; first | exact Bool.noConfusion h | exact nz _ h | exact nl h | (simp at h; done) | (simp at h; first | (exfalso; omega) | skip) | skip) | (refine (?_ : srcLen _ = rowsLen _); rfl) | exact (by kernel_rfl : drawOk _ _ = true) | refine eqv_wrap (by omega) (by omega) ?_ | (refine (?_ : _ = rowsLen _); simp [rowsLen] <;> omega) | refine eqv_to _ (app_row rfl) (eqv_to _ app_len ?_) | fail)
            refine ⟨k + 1, by omega, by omega, ?_⟩
            rw [hF1, hG1]
            exact back [0, 1, 5, 3] rfl rfl (by repeat' (first | exact trivial | exact rfl | refine kept_ob rfl ?_ | refine And.intro ?_ ?_)) (by repeat' (first | exact trivial | exact rfl | exact ren_get rfl | refine And.intro ?_ ?_))
        · have hS : swB m x b = false := pB_f hP
          rw [if_neg (by rw [hS]; simp)] at hF1 hG1
          rw [pB_f hP] at hsw
          rcases F with _ | ⟨a, F⟩
          · repeat' (first | (refine fv_sl ?_) | (refine fh_ob ?_) | (refine idx_sl (k := k) (at_map hb) rfl ?_) | (refine idx_sl (k := 0) (r := intRow x) rfl rfl ?_) | ((change vcFunD _ _ _ _ _; refine callD_eq rfl (by repeat' (first | trivial | refine And.intro ?_ ?_ | (show 0 + _ ≤ List.length _; simp))) ALeL.refl hsw rfl ?_)) | ((refine o_app rfl rfl rfl rfl rfl rfl rfl rfl rfl rfl rfl (by rw [List.length_map]; omega) (by rw [List.length_map]; omega) ?_)) | refine o1 ?_ | refine o2 ?_ | refine k1 ?_ | refine k2 ?_ | refine k3 ?_ | refine k4 ?_ | refine k6 ?_ | refine And.intro ?_ ?_ | refine o3 ?_ | refine o4 ?_ | (intro h; first | exact Bool.noConfusion h | exact nz _ h | exact nl h | (simp at h; done) | (simp at h; first | (exfalso; omega) | skip) | skip) | exact (by kernel_rfl : drawOk _ _ = true) | refine eqv_wrap (by omega) (by omega) ?_ | fail)
            refine ⟨k + 1, by omega, by omega, ?_⟩
            rw [hF1, hG1, map_snoc, sl_app, ob_app]
            exact back [0, 1, 2, 5] rfl rfl (by repeat' (first | exact trivial | exact rfl | refine kept_ob rfl ?_ | refine And.intro ?_ ?_)) (by repeat' (first | exact trivial | exact rfl | exact ren_get rfl | refine And.intro ?_ ?_))
          · repeat' (first | (refine fv_sl ?_) | (refine fh_ob ?_) | (refine idx_sl (k := k) (at_map hb) rfl ?_) | (refine idx_sl (k := 0) (r := intRow x) rfl rfl ?_) | ((change vcFunD _ _ _ _ _; refine callD_eq rfl (by repeat' (first | trivial | refine And.intro ?_ ?_ | (show 0 + _ ≤ List.length _; simp))) ALeL.refl hsw rfl ?_)) | ((refine o_app rfl rfl rfl rfl rfl rfl rfl rfl rfl rfl rfl (by rw [List.length_map]; omega) (by rw [List.length_map]; omega) ?_)) | refine o1 ?_ | refine o2 ?_ | refine k1 ?_ | refine k2 ?_ | refine k3 ?_ | refine k4 ?_ | refine k6 ?_ | refine And.intro ?_ ?_ | refine o3 ?_ | refine o4 ?_ | (intro h; first | exact Bool.noConfusion h | exact nz _ h | exact nl h | (simp at h; done) | (simp at h; first | (exfalso; omega) | skip) | skip) | exact (by kernel_rfl : drawOk _ _ = true) | refine eqv_wrap (by omega) (by omega) ?_ | fail)
            refine ⟨k + 1, by omega, by omega, ?_⟩
            rw [hF1, hG1, map_snoc, sl_app, ob_app]
            exact back [0, 1, 2, 5] rfl rfl (by repeat' (first | exact trivial | exact rfl | refine kept_ob rfl ?_ | refine And.intro ?_ ?_)) (by repeat' (first | exact trivial | exact rfl | exact ren_get rfl | refine And.intro ?_ ?_))
      · obtain rfl : k = l.length := by omega
        rw [List.take_length]
        have hsum := filt_sum (p := swB m x) (l := l)
        have hst : setsF m (x :: l).length (x :: l) = (if l.filter (swB m x) = [] then [] else [x :: l.filter (swB m x)]) ++ setsF m (l.filter fun b => !swB m x b).length (l.filter fun b => !swB m x b) := by
          rw [← hsl l.length (List.length_filter_le ..)]; rfl
        rw [hst] at h3
        simp only [List.length_cons] at h1 h2
        generalize hFF : l.filter (swB m x) = F at *
        generalize hGG : (l.filter fun b => !swB m x b) = G at *
        refine forceH_in ?_
        rcases F with _ | ⟨a, F⟩
        · rw [if_pos rfl, List.nil_append] at h3
          refine ghost_seq (Γ' := [(1, .ptr 0 4 0 0), (3, slP 1 1 (OUT.map lstRow)), (5, .pv (.sl 1 [intRow x])), (6, .pv (.sl 1 (G.map intRow))), (22, .pv (.sl 1 (l.map intRow))), (23, vint .i64 l.length), (24, vint .i64 l.length)]) (H' := [some ⟨29, 4, false, .box (pvs m.cells)⟩, obP 22 1 (OUT.map lstRow)]) (Ghost.trans (Ghost.weak (s := 5) rfl clip_le) (Ghost.sl (s := 6) (id := 3) rfl rfl fun H' hl hH => back [0, 1] rfl rfl (And.intro (hH 0 (by decide)) (kept_ob (hH 1 (by decide)) trivial)) (by repeat' (first | exact trivial | exact rfl | exact ren_get rfl | refine And.intro ?_ ?_)))) ?_
          repeat' (first | refine o1 ?_ | refine o2 ?_ | refine k1 ?_ | refine k2 ?_ | refine k3 ?_ | refine k6 ?_ | refine k8 ?_ | refine And.intro ?_ ?_ | (intro h; first | exact Bool.noConfusion h | exact nz _ h | exact nl h | (simp at h; done) | (simp at h; first | (exfalso; omega) | skip) | skip) | refine eqv_zero ?_ | fail)
          all_goals first
            | (exfalso; omega)
            | exact ⟨(G, OUT), ⟨by dsimp only; simp at hsum; omega, by dsimp only; simp at hsum; omega, h3⟩, by dsimp only; simp at hsum ⊢; omega, back [0, 1] rfl rfl (by repeat' (first | exact trivial | exact rfl | refine kept_ob rfl ?_ | refine And.intro ?_ ?_)) (by repeat' (first | exact trivial | exact rfl | exact ren_get rfl | refine And.intro ?_ ?_))⟩
        · rw [if_neg (by simp)] at h3
          refine ghost_seq (Γ' := [(1, .ptr 0 4 0 0), (3, slP 1 1 (OUT.map lstRow)), (5, .pv (.sl 1 ((x :: a :: F).map intRow))), (6, .pv (.sl 1 (G.map intRow))), (22, .pv (.sl 1 (l.map intRow))), (23, vint .i64 l.length), (24, vint .i64 l.length)]) (H' := [some ⟨29, 4, false, .box (pvs m.cells)⟩, obP 22 1 (OUT.map lstRow)]) (Ghost.trans (Ghost.freeze (s := 5) rfl rfl (by repeat' (first | (show 0 + _ ≤ List.length _; simp)))) (Ghost.trans (Ghost.weak (s := 5) rfl (ALe.pv (whole_le (f := intRow) (l := x :: a :: F) (Nat.le_refl _)))) (Ghost.sl (s := 6) (id := 3) rfl rfl fun H' hl hH => back [0, 1] rfl rfl (And.intro (hH 0 (by decide)) (kept_ob (hH 1 (by decide)) trivial)) (by repeat' (first | exact trivial | exact rfl | exact ren_get rfl | refine And.intro ?_ ?_))))) ?_
          have hOl : OUT.length ≤ 576 := by omega
          repeat' (first | (refine fv_sl ?_) | (refine fh_ob ?_) | ((refine o_app rfl rfl rfl rfl rfl rfl rfl rfl rfl rfl rfl (by rw [List.length_map]; omega) (by rw [List.length_map]; omega) ?_)) | refine o1 ?_ | refine o2 ?_ | refine k1 ?_ | refine k2 ?_ | refine k3 ?_ | refine k8 ?_ | refine And.intro ?_ ?_ | (intro h; first | exact Bool.noConfusion h | exact nz _ h | exact nl h | (simp at h; done) | (simp at h; first | (exfalso; omega) | skip) | skip) | refine eqv_len_map ?_ | fail)
          all_goals first
            | (exfalso; omega)
            | (refine ⟨(G, OUT ++ [x :: a :: F]), ⟨by dsimp only; simp at hsum; omega, by dsimp only; simp at hsum ⊢; omega, by dsimp only; rw [List.append_assoc]; exact h3⟩, by dsimp only; simp at hsum ⊢; omega, ?_⟩
               dsimp only
               rw [map_snoc, sl_app, ob_app]
               exact back [0, 3] rfl rfl (by repeat' (first | exact trivial | exact rfl | refine And.intro ?_ ?_)) (by repeat' (first | exact trivial | exact rfl | refine And.intro ?_ ?_)))
  · have e : setsV m = [] := if_neg hok
    rw [e]
    generalize modelE m = E at hv hok
    refine acall_of tok mixed 56 rfl (fn := Tryz.f16) (c := Tryz.f16.body.getD .skip) (by kernel_rfl) (by kernel_rfl) (by kernel_rfl) rfl 0 rfl ?_
    repeat' (first | refine o1 ?_ | refine o2 ?_ | refine k1 ?_ | refine k2 ?_ | refine k3 ?_ | refine k7 ?_ | refine And.intro ?_ ?_ | (intro h; first | exact Bool.noConfusion h | exact nz _ h | exact nl h | (simp at h; done) | (simp at h; first | (exfalso; omega) | skip) | skip) | (change retOk _ _ _ _; refine ret_pure rfl trivial ?_) | (change vcFun _ _ _ _ _; refine call_eq rfl (by repeat' (first | trivial | refine And.intro ?_ ?_ | (show 0 + _ ≤ List.length _; simp))) ALeL.refl (hv) rfl ?_) | fail)
    all_goals first
      | (exfalso; omega)
      | exact ⟨ALe.pv PLe.nil⟩
theorem c_Rooms (m : Model) (hl : Laid m) : PCall Tryz.prog 16 [ag m.cells] (fun r => r = .pv (.sl 1 ((setsV m).map lstRow))) := (c_Rooms0 m hl).weak fun r k => ⟨_, k.le, rfl⟩
end Go.Proofs.YtihpjcmloecaaaaGreat.Cw
/-
  Symmetry: the sets of rooms that can be exchanged, by the reference.
-/
namespace Go.Proofs.YtihpjcmloecaaaaGreat.Cw
open Go Go.Cw Go.Proofs
set_option linter.unusedVariables false
set_option maxRecDepth 100000
set_option maxHeartbeats 8000000
theorem sw_iff {m : Model} {x b : Int} : swB m x b = true ↔ swapP m x b := by unfold swB; simp
noncomputable def dnL (m : Model) (V : List Int) (x : Int) (i k : Nat) (D : List Bool) : List Bool := D.mapIdx fun j d => d || (decide (i < j ∧ j < k) && swB m x (V.getD j 0))
section
variable {m : Model} {V : List Int} {x : Int} {i k : Nat} {D : List Bool}
end
structure Rms (m : Model) (V : List Int) (i : Nat) (D : List Bool) (OUT : List (List Int)) : Prop where
  len : D.length = V.length
  out : OUT ++ setsF m (utk (D.drop i) (V.drop i)).length (utk (D.drop i) (V.drop i)) = setsF m V.length V
  many : OUT.length ≤ i
  done : ∀ k, i ≤ k → D[k]? = some true → ∃ (j : Nat) (y z : Int), j < i ∧ V[j]? = some y ∧ V[k]? = some z ∧ swB m y z = true ∧ ∀ (k' : Nat) (w : Int), j < k' → V[k']? = some w → swB m y w = true → D[k']? = some true
section
variable {m : Model} {V : List Int} {i : Nat} {D : List Bool} {OUT : List (List Int)}
end
end Go.Proofs.YtihpjcmloecaaaaGreat.Cw
/-
  Symmetry: Rooms by the reference.
-/
namespace Go.Proofs.YtihpjcmloecaaaaGreat.Cw
open Go Go.Cw Go.Proofs
set_option linter.unusedVariables false
set_option maxRecDepth 100000
set_option maxHeartbeats 8000000
end Go.Proofs.YtihpjcmloecaaaaGreat.Cw
/-
  Symmetry: equal lists of lists.
-/
namespace Go.Proofs.YtihpjcmloecaaaaGreat.Cw
open Go Go.Cw Go.Proofs
set_option linter.unusedVariables false
set_option maxRecDepth 100000
set_option maxHeartbeats 8000000
theorem setsF_len {m : Model} : ∀ {n : Nat} {l : List Int}, (setsF m n l).length ≤ l.length ∧ ∀ s ∈ setsF m n l, s.length ≤ l.length
  | 0, l => ⟨Nat.zero_le _, by simp [setsF]⟩
  | n + 1, [] => ⟨Nat.zero_le _, by simp [setsF]⟩
  | n + 1, x :: l => by
    obtain ⟨h1, h2⟩ := setsF_len (m := m) (n := n) (l := l.filter fun b => !swB m x b)
    have h3 := List.length_filter_le (fun b => !swB m x b) l
    have h4 := List.length_filter_le (swB m x) l
    unfold setsF
    split
    · rw [List.nil_append]
      refine ⟨by simp only [List.length_cons]; omega, fun s hs => ?_⟩
      have := h2 s hs
      simp only [List.length_cons]; omega
    · refine ⟨by simp only [List.length_append, List.length_cons, List.length_nil]; omega, fun s hs => ?_⟩
      rcases List.mem_append.1 hs with hs | hs
      · simp at hs; subst hs; simp only [List.length_cons]; omega
      · have := h2 s hs
        simp only [List.length_cons]; omega
theorem setsV_len {m : Model} : (setsV m).length ≤ 576 ∧ ∀ s ∈ setsV m, s.length ≤ 576 := by
  unfold setsV
  split
  · rename_i h
    have h1 := rooms_len (model_sized h)
    obtain ⟨h2, h3⟩ := setsF_len (m := m) (n := (roomsV m).length) (l := roomsV m)
    exact ⟨by omega, fun s hs => by have := h3 s hs; omega⟩
  · exact ⟨by simp, by simp⟩
end Go.Proofs.YtihpjcmloecaaaaGreat.Cw
/-
  Contracts: the places of a plan.
-/
namespace Go.Proofs.YtihpjcmloecaaaaGreat.Cw
open Go.Cw Go.Proofs
set_option linter.unusedVariables false
set_option maxRecDepth 100000
set_option maxHeartbeats 1600000
def plc (m : Model) (plan : List Int) (i : Nat) : Option Placed := match m.classes[i]?, plan[i]? with
  | some l, some o => (l[o.toNat]?).map Opt.place
  | _, _ => none
def placesTo (m : Model) (plan : List Int) (n : Nat) : List Placed := (List.range n).filterMap (plc m plan)
noncomputable def placesV (m : Model) (plan : List Int) : List Placed := if completeE m plan = 0 then placesTo m plan plan.length else []
def mbox (m : Model) : Option AObj := some ⟨29, 4, false, .box [.pv (.sl 1 (m.classes.map optsRow)), .pv (.sl 4 (m.pairs.map Pair.row)), .pv (.sl 4 (m.counts.map Count.row)), vint .i64 m.rules]⟩
end Go.Proofs.YtihpjcmloecaaaaGreat.Cw
/-
  Symmetry: sets of rooms, and plans (program's side).
-/
namespace Go.Proofs.YtihpjcmloecaaaaGreat.Cw
open Go Go.Cw Go.Proofs
set_option linter.unusedVariables false
set_option maxRecDepth 100000
set_option maxHeartbeats 8000000
noncomputable def setF (S : List (List Int)) (r : Int) : List Int := (S.find? fun s => pB (r ∈ s)).getD []
theorem find_take_none {α : Type} {f : α → Bool} {l : List α} {i : Nat} {x : α} (h : ∀ j, j < i → ∀ y, l[j]? = some y → f y = false) (hx : l[i]? = some x) (hf : f x = true) : l.find? f = some x := by
  induction l generalizing i with
  | nil => simp at hx
  | cons a l ih =>
    cases i with
    | zero => simp at hx; subst hx; rw [List.find?_cons, hf]
    | succ i =>
      rw [List.find?_cons, h 0 (by omega) a rfl]
      exact ih (i := i) (fun j hj y hy => h (j + 1) (Nat.succ_lt_succ hj) y (by simpa using hy)) (by simpa using hx)
theorem find_all_none {α : Type} {f : α → Bool} {l : List α} (h : ∀ j, j < l.length → ∀ y, l[j]? = some y → f y = false) : l.find? f = none := by
  rw [List.find?_eq_none]
  intro x hx
  obtain ⟨j, hj⟩ := List.getElem?_of_mem hx
  rw [h j (List.getElem?_eq_some_iff.1 hj).1 x hj]; decide
theorem c_setOf0 (S : List (List Int)) (r : Int) (hS : S.length ≤ 100000) (hs : ∀ s ∈ S, s.length ≤ 100000) : PCall Tryz.prog 47 [.pv (.sl 1 (S.map lstRow)), vint .i64 r] (fun x => Leq x (.pv (.sl 1 ((setF S r).map intRow)))) := by
  refine acall_of tok mixed 18 rfl (fn := Tryz.f47) (c := Tryz.f47.body.getD .skip) (by kernel_rfl) (by kernel_rfl) (by kernel_rfl) rfl 0 rfl ?_
  repeat' (first | refine o1 ?_ | refine o2 ?_ | refine k1 ?_ | refine k2 ?_ | refine k4 ?_ | refine eqv_len_map ?_ | fail)
  refine loop_for (fun i : Nat => [(1, vint .i64 r), (7, .pv (.sl 1 (S.map lstRow))), (8, vint .i64 S.length), (9, vint .i64 i)]) (fun _ => [])
    (fun i => i ≤ S.length ∧ ∀ j, j < i → ∀ y, S[j]? = some y → pB (r ∈ y) = false) (fun i => S.length - i) 0 ⟨Nat.zero_le _, fun j hj => absurd hj (Nat.not_lt_zero _)⟩ ?_ ?_
  · exact back [] rfl rfl trivial (by repeat' (first | exact trivial | exact rfl | refine And.intro ?_ ?_))
  rintro i ⟨hi, hn⟩
  rcases Nat.lt_or_ge i S.length with hlt | hge
  · obtain ⟨s, hs1⟩ := getE hlt
    have hc := c_containsN s r (hs s (List.mem_of_getElem? hs1))
    cases hb : pB (r ∈ s)
    · rw [hb] at hc
      repeat' (first | (refine idx_sl (k := i) (at_map hs1) (by omega) ?_) | refine o1 ?_ | refine o2 ?_ | refine k1 ?_ | refine k2 ?_ | refine k3 ?_ | refine k4 ?_ | refine k6 ?_ | refine And.intro ?_ ?_ | (intro h; first | exact Bool.noConfusion h | exact nz _ h | exact nl h | (simp at h; done) | (simp at h; first | (exfalso; omega) | skip) | skip) | refine eqv_wrap (by omega) (by omega) ?_ | (change vcFun _ _ _ _ _; refine call_eq rfl (by repeat' (first | trivial | refine And.intro ?_ ?_ | (show 0 + _ ≤ List.length _; simp))) ALeL.refl (hc) rfl ?_) | fail)
      all_goals first
        | (exfalso; omega)
        | exact ⟨i + 1, ⟨by omega, fun j hj y hy => by
            rcases Nat.lt_or_ge j i with h1 | h1
            · exact hn j h1 y hy
            · obtain rfl : j = i := by omega
              rw [hs1] at hy; cases hy; exact hb⟩, by omega, back [] rfl rfl trivial (by repeat' (first | exact trivial | exact rfl | refine And.intro ?_ ?_))⟩
    · rw [hb] at hc
      have e : setF S r = s := by unfold setF; rw [find_take_none hn hs1 hb]; rfl
      rw [e]
      repeat' (first | (refine idx_sl (k := i) (at_map hs1) (by omega) ?_) | refine o1 ?_ | refine o2 ?_ | refine k1 ?_ | refine k2 ?_ | refine k3 ?_ | refine k4 ?_ | refine k6 ?_ | refine k7 ?_ | refine And.intro ?_ ?_ | (intro h; first | exact Bool.noConfusion h | exact nz _ h | exact nl h | (simp at h; done) | (simp at h; first | (exfalso; omega) | skip) | skip) | (change retOk _ _ _ _; refine ret_pure rfl trivial ?_) | (change vcFun _ _ _ _ _; refine call_eq rfl (by repeat' (first | trivial | refine And.intro ?_ ?_ | (show 0 + _ ≤ List.length _; simp))) ALeL.refl (hc) rfl ?_) | fail)
      all_goals first
        | (exfalso; omega)
        | exact ⟨ALe.refl⟩
  · have e : setF S r = [] := by unfold setF; rw [find_all_none fun j hj => hn j (by omega)]; rfl
    rw [e]
    repeat' (first | refine o1 ?_ | refine o2 ?_ | refine k1 ?_ | refine k2 ?_ | refine k3 ?_ | refine k7 ?_ | refine k8 ?_ | refine And.intro ?_ ?_ | (intro h; first | exact Bool.noConfusion h | exact nz _ h | exact nl h | (simp at h; done) | (simp at h; first | (exfalso; omega) | skip) | skip) | (change retOk _ _ _ _; refine ret_pure rfl trivial ?_) | fail)
    all_goals first
      | (exfalso; omega)
      | exact ⟨ALe.pv PLe.nil⟩
theorem c_setOf (S : List (List Int)) (r : Int) (hS : S.length ≤ 100000) (hs : ∀ s ∈ S, s.length ≤ 100000) : PCall Tryz.prog 47 [.pv (.sl 1 (S.map lstRow)), vint .i64 r] (fun x => x = .pv (.sl 1 ((setF S r).map intRow))) := (c_setOf0 S r hS hs).weak fun r k => ⟨_, k.le, rfl⟩
def isPlanP (m : Model) (plan : List Int) : Prop := plan.length = m.classes.length ∧ ∀ j : Nat, j < plan.length → ∀ o l, plan[j]? = some o → m.classes[j]? = some l → -1 ≤ o ∧ o < l.length
theorem c_isPlan (m : Model) (plan : List Int) (hz : sizedP m) : PCall Tryz.prog 43 [ag m.cells, .pv (encInts plan)] (fun r => r = vbool (pB (isPlanP m plan))) := by
  refine acall_of tok mixed 33 rfl (fn := Tryz.f43) (c := Tryz.f43.body.getD .skip) (by kernel_rfl) (by kernel_rfl) (by kernel_rfl) rfl 0 rfl ?_
  have hcn := hz.1
  repeat' (first | refine o1 ?_ | refine o2 ?_ | refine k1 ?_ | refine k2 ?_ | refine k3 ?_ | refine k4 ?_ | refine k6 ?_ | refine k7 ?_ | refine And.intro ?_ ?_ | (intro h; first | exact Bool.noConfusion h | exact nz _ h | exact nl h | (simp at h; done) | (simp at h; first | (exfalso; omega) | skip) | skip) | (change retOk _ _ _ _; refine ret_pure rfl trivial ?_) | refine eqv_len_map ?_ | fail)
  all_goals first
    | exact congrArg vbool (pB_f fun h => by have := h.1; omega).symm
    | skip
  have hpl : plan.length = m.classes.length := by omega
  refine loop_for (fun i : Nat => [(2, .ptr 0 4 0 0), (13, .pv (encInts plan)), (14, vint .i64 plan.length), (15, vint .i64 i)]) (fun _ => [some ⟨29, 4, false, .box [.pv (.sl 1 (m.classes.map optsRow)), .pv (.sl 4 (m.pairs.map Pair.row)), .pv (.sl 4 (m.counts.map Count.row)), .pv (ei m.rules)]⟩])
    (fun i => i ≤ plan.length ∧ ∀ j : Nat, j < i → ∀ o l, plan[j]? = some o → m.classes[j]? = some l → -1 ≤ o ∧ o < l.length) (fun i => plan.length - i) 0 ⟨Nat.zero_le _, fun j hj => absurd hj (Nat.not_lt_zero _)⟩ ?_ ?_
  · exact back [0] rfl rfl (by repeat' (first | exact trivial | exact rfl | refine And.intro ?_ ?_)) (by repeat' (first | exact trivial | exact rfl | refine And.intro ?_ ?_))
  rintro i ⟨hi, hall⟩
  rcases Nat.lt_or_ge i plan.length with hlt | hge
  · obtain ⟨o, ho⟩ := getE hlt
    obtain ⟨l, hl⟩ := getE (l := m.classes) (i := i) (by omega)
    have hln := hz.2.1 l (List.mem_of_getElem? hl)
    have hstep : -1 ≤ o → o < l.length → ∀ j : Nat, j < i + 1 → ∀ o l, plan[j]? = some o → m.classes[j]? = some l → -1 ≤ o ∧ o < l.length := fun h1 h2 j hj o' l' ho' hl' => by
      rcases Nat.lt_or_ge j i with h3 | h3
      · exact hall j h3 o' l' ho' hl'
      · obtain rfl : j = i := by omega
        rw [ho] at ho'; rw [hl] at hl'; cases ho'; cases hl'; exact ⟨h1, h2⟩
    repeat' (first | (refine idx_sl (k := i) (at_map ho) (by omega) ?_) | (refine idx_sl (k := i) (at_map hl) (by omega) ?_) | refine o1 ?_ | refine o2 ?_ | refine k1 ?_ | refine k2 ?_ | refine k3 ?_ | refine k4 ?_ | refine k6 ?_ | refine k7 ?_ | refine And.intro ?_ ?_ | (intro h; first | exact Bool.noConfusion h | exact nz _ h | exact nl h | (simp at h; done) | (simp at h; first | (exfalso; omega) | skip) | skip) | (change retOk _ _ _ _; refine ret_pure rfl trivial ?_) | refine eqv_len_map ?_ | refine eqv_wrap (by omega) (by omega) ?_ | fail)
    all_goals first
      | (refine congrArg vbool (pB_f fun h => ?_).symm; have := h.2 i hlt o l ho hl; omega)
      | exact ⟨i + 1, ⟨by omega, hstep (by omega) (by omega)⟩, by omega, back [0] rfl rfl (by repeat' (first | exact trivial | exact rfl | refine And.intro ?_ ?_)) (by repeat' (first | exact trivial | exact rfl | refine And.intro ?_ ?_))⟩
  · repeat' (first | refine o1 ?_ | refine o2 ?_ | refine k1 ?_ | refine k2 ?_ | refine k3 ?_ | refine k7 ?_ | refine k8 ?_ | refine And.intro ?_ ?_ | (intro h; first | exact Bool.noConfusion h | exact nz _ h | exact nl h | (simp at h; done) | (simp at h; first | (exfalso; omega) | skip) | skip) | (change retOk _ _ _ _; refine ret_pure rfl trivial ?_) | fail)
    all_goals first
      | exact congrArg vbool (pB_t ⟨hpl, fun j hj => hall j (by omega)⟩).symm
end Go.Proofs.YtihpjcmloecaaaaGreat.Cw
/-
  Symmetry: the least plan that arises from a plan (program's side).
-/
namespace Go.Proofs.YtihpjcmloecaaaaGreat.Cw
open Go Go.Cw Go.Proofs
set_option linter.unusedVariables false
set_option maxRecDepth 100000
set_option maxHeartbeats 8000000
def numM (f : Int × Int → Int × PV) : Nat → List (Int × Int) → List (Value × Nat × AV)
  | _, [] => []
  | b, e :: E => (.int .i64 (f e).1, b, .pv (f e).2) :: numM f (b + 1) E
section
variable {f : Int × Int → Int × PV} {k : Int}
theorem numM_get : ∀ {E : List (Int × Int)} {b : Nat}, getM (.int .i64 k) (numM f b E) = (E.find? fun e => k == (f e).1).map fun e => .pv (f e).2
  | [], b => rfl
  | e :: E, b => by
    simp only [numM, getM, List.find?_cons]
    show (bif k == (f e).1 then _ else _) = _
    cases k == (f e).1
    · exact numM_get
    · rfl
theorem numM_put {v : AV} {ck : Nat} : ∀ {E : List (Int × Int)} {b : Nat}, (E.find? fun e => k == (f e).1) = none → putM (.int .i64 k) v ck (numM f b E) = numM f b E ++ [(.int .i64 k, ck, v)]
  | [], b, _ => rfl
  | e :: E, b, h => by
    simp only [numM, putM, List.find?_cons] at *
    cases hk : k == (f e).1
    · rw [hk] at h
      show (bif k == (f e).1 then _ else _) = _
      rw [hk]
      show _ :: _ = _ :: _
      rw [numM_put h]; rfl
    · rw [hk] at h; cases h
theorem numM_app {e : Int × Int} : ∀ {E : List (Int × Int)} {b : Nat}, numM f b (E ++ [e]) = numM f b E ++ [(.int .i64 (f e).1, b + E.length, .pv (f e).2)]
  | [], b => rfl
  | a :: E, b => by
    simp only [numM, List.cons_append, List.length_cons]
    rw [numM_app, show b + 1 + E.length = b + (E.length + 1) by omega]
theorem numM_pure : ∀ {E : List (Int × Int)} {b : Nat}, pureM (numM f b E)
  | [], b => fun e h => absurd h List.not_mem_nil
  | a :: E, b => fun e h => by
    simp only [numM, List.mem_cons] at h
    rcases h with rfl | h
    · exact ⟨_, rfl⟩
    · exact numM_pure e h
end
def fTo (e : Int × Int) : Int × PV := (e.1, .val (.int .i64 e.2))
def fTk (e : Int × Int) : Int × PV := (e.2, .val (.bool true))
def mapN (ty : Nat) (f : Int × Int → Int × PV) (E : List (Int × Int)) : Option AObj := some ⟨ty, 1, false, .mp .num .i64 (numM f 0 E) E.length⟩
theorem kept_mpN {ty d i : Nat} {H Hc : Heap} {rn l : List Nat} {f : Int × Int → Int × PV} {E : List (Int × Int)} (h : H[i]? = some (mapN ty f E)) (hk : kept H d rn l Hc) : kept H d rn (i :: l) (mapN ty f E :: Hc) :=
  ⟨(by show _ = some (some (renO _ _ _)); rw [ren_mp numM_pure]; exact h), hk⟩
def toF (E : List (Int × Int)) (r : Int) : Option Int := (E.find? fun e => r == e.1).map (·.2)
def takenB (E : List (Int × Int)) (t : Int) : Bool := (E.find? fun e => t == e.2).isSome
def imgI (o : Option Nat) : Int := ((o.getD 0 : Nat) : Int)
def pickS (E : List (Int × Int)) (g : Int → Int) (st : Int × Int) (t : Int) : Int × Int := if takenB E t then st else if st.1 < 0 ∨ g t < st.2 then (t, g t) else st
noncomputable def canStep (S : List (List Int)) (l : List Opt) (o : Nat) (r : Int) (c : Nat) (st : List Int × List (Int × Int)) : List Int × List (Int × Int) :=
  match toF st.2 r with
  | some t => (st.1.set c (imgI (imgO l o t)), st.2)
  | none => (st.1.set c ((setF S r).foldl (pickS st.2 fun t => imgI (imgO l o t)) (-1, (o : Int))).2, if 0 ≤ ((setF S r).foldl (pickS st.2 fun t => imgI (imgO l o t)) (-1, (o : Int))).1 then st.2 ++ [(r, ((setF S r).foldl (pickS st.2 fun t => imgI (imgO l o t)) (-1, (o : Int))).1)] else st.2)
noncomputable def canS (m : Model) (plan : List Int) (S : List (List Int)) : Nat → List Int × List (Int × Int)
  | 0 => (plan, [])
  | k + 1 => match plan[k]?, m.classes[k]? with
    | some o, some l => if o < 0 then canS m plan S k else match l[o.toNat]? with
      | some q => canStep S l o.toNat q.place.room k (canS m plan S k)
      | none => canS m plan S k
    | _, _ => canS m plan S k
noncomputable def canV (m : Model) (plan : List Int) : List Int := (canS m plan (setsV m) plan.length).1
noncomputable def canE (m : Model) (plan : List Int) : Int := if modelE m = 0 then (if pB (isPlanP m plan) then 0 else 17) else modelE m
noncomputable def canR (m : Model) (plan : List Int) : List Int := if canE m plan = 0 then canV m plan else []
theorem call_cloneI {l : List Int} {H : Heap} {K : AV → Heap → Prop} (hl : 0 < l.length ∧ l.length ≤ 100000) (hK : K (.ms H.length 1 0 l.length) (H ++ [some ⟨3, 1, false, .p (l.map intRow)⟩])) : vcFun Tryz.prog 44 [.pv (.sl 1 (l.map intRow))] H K := by
  refine call_obj [] [] [.pv (.sl 1 (l.map intRow))] rfl trivial rfl (c_cloneI l hl) fun r Hc' hp => ?_
  obtain ⟨rfl, rfl⟩ := hp
  exact ⟨Nat.zero_le _, hK⟩
def mdlO (m : Model) : Option AObj := some ⟨29, 4, false, .box [.pv (.sl 1 (m.classes.map optsRow)), .pv (.sl 4 (m.pairs.map Pair.row)), .pv (.sl 4 (m.counts.map Count.row)), .pv (ei m.rules)]⟩
theorem imgA_eq {o : Option Nat} : imgA o = .tup [vint .i64 (imgI o), vbool o.isSome] := by cases o <;> rfl
theorem set_same {α : Type} {l : List α} {c : Nat} {x : α} (h : l[c]? = some x) : l.set c x = l := by
  obtain ⟨hl, rfl⟩ := List.getElem?_eq_some_iff.1 h
  exact List.set_getElem_self hl
theorem get_to {E : List (Int × Int)} {r : Int} : getM (.int .i64 r) (numM fTo 0 E) = (toF E r).map fun t => vint .i64 t := by
  rw [numM_get]; unfold toF; rw [Option.map_map]; rfl
theorem get_tk {E : List (Int × Int)} {t : Int} : getM (.int .i64 t) (numM fTk 0 E) = if takenB E t then some (vbool true) else none := by
  rw [numM_get]; unfold takenB
  show (E.find? fun e => t == e.2).map _ = _
  cases (E.find? fun e => t == e.2) <;> rfl
theorem put_to {E : List (Int × Int)} {r b : Int} (h : toF E r = none) : putM (.int .i64 r) (vint .i64 b) E.length (numM fTo 0 E) = numM fTo 0 (E ++ [(r, b)]) := by
  have h : (E.find? fun e => r == (fTo e).1) = none := by
    show (E.find? fun e => r == e.1) = none
    unfold toF at h
    cases hf : (E.find? fun e => r == e.1) with
    | none => rfl
    | some e => rw [hf] at h; cases h
  rw [numM_put h, numM_app, Nat.zero_add]; rfl
theorem put_tk {E : List (Int × Int)} {r b : Int} (h : takenB E b = false) : putM (.int .i64 b) (vbool true) E.length (numM fTk 0 E) = numM fTk 0 (E ++ [(r, b)]) := by
  have h : (E.find? fun e => b == (fTk e).1) = none := by
    show (E.find? fun e => b == e.2) = none
    unfold takenB at h
    cases hf : (E.find? fun e => b == e.2) with
    | none => rfl
    | some e => rw [hf] at h; cases h
  rw [numM_put h, numM_app, Nat.zero_add]; rfl
theorem ck_to {E : List (Int × Int)} {r b : Int} (h : toF E r = none) : ckM (.int .i64 r) E.length (numM fTo 0 E) = (E ++ [(r, b)]).length := by
  unfold ckM; rw [get_to, h, List.length_append]; rfl
theorem ck_tk {E : List (Int × Int)} {r b : Int} (h : takenB E b = false) : ckM (.int .i64 b) E.length (numM fTk 0 E) = (E ++ [(r, b)]).length := by
  unfold ckM; rw [get_tk, h, List.length_append]; rfl
theorem pickS_taken {E : List (Int × Int)} {g : Int → Int} {st : Int × Int} {t : Int} (h : takenB E t = true) : pickS E g st t = st := by unfold pickS; rw [if_pos h]
theorem pickS_put {E : List (Int × Int)} {g : Int → Int} {st : Int × Int} {t : Int} (h : takenB E t = false) (h2 : st.1 < 0 ∨ g t < st.2) : pickS E g st t = (t, g t) := by unfold pickS; rw [if_neg (by rw [h]; decide), if_pos h2]
theorem pickS_skip {E : List (Int × Int)} {g : Int → Int} {st : Int × Int} {t : Int} (h : takenB E t = false) (h2 : ¬ (st.1 < 0 ∨ g t < st.2)) : pickS E g st t = st := by unfold pickS; rw [if_neg (by rw [h]; decide), if_neg h2]
theorem pick_free {E : List (Int × Int)} {g : Int → Int} : ∀ {l : List Int} {st : Int × Int}, st.1 < 0 ∨ takenB E st.1 = false → (l.foldl (pickS E g) st).1 < 0 ∨ takenB E (l.foldl (pickS E g) st).1 = false
  | [], st, h => h
  | t :: l, st, h => by
    refine pick_free (l := l) ?_
    unfold pickS
    cases ht : takenB E t
    · simp only [Bool.false_eq_true, if_false]
      split
      · exact .inr ht
      · exact h
    · simpa using h
theorem canS_next {m : Model} {plan : List Int} {S : List (List Int)} {c : Nat} {o : Int} {l : List Opt} (ho : plan[c]? = some o) (hl : m.classes[c]? = some l) : canS m plan S (c + 1) = if o < 0 then canS m plan S c else match l[o.toNat]? with
      | some q => canStep S l o.toNat q.place.room c (canS m plan S c)
      | none => canS m plan S c := by
  rw [canS, ho, hl]
theorem canStep_inv {S : List (List Int)} {l : List Opt} {o : Nat} {r : Int} {c : Nat} {st : List Int × List (Int × Int)} : (canStep S l o r c st).1.length = st.1.length ∧ ∀ j : Nat, c < j → (canStep S l o r c st).1[j]? = st.1[j]? := by
  unfold canStep
  split
  · exact ⟨List.length_set .., fun j hj => List.getElem?_set_ne (by omega)⟩
  · exact ⟨List.length_set .., fun j hj => List.getElem?_set_ne (by omega)⟩
theorem canS_inv {m : Model} {plan : List Int} {S : List (List Int)} (hp : isPlanP m plan) : ∀ {c : Nat}, c ≤ plan.length → (canS m plan S c).1.length = plan.length ∧ ∀ j : Nat, c ≤ j → (canS m plan S c).1[j]? = plan[j]?
  | 0, _ => ⟨rfl, fun _ _ => rfl⟩
  | c + 1, hc => by
    obtain ⟨h1, h2⟩ := canS_inv hp (c := c) (S := S) (by omega)
    obtain ⟨o, ho⟩ := getE (l := plan) (i := c) (by omega)
    obtain ⟨l, hl⟩ := getE (l := m.classes) (i := c) (by have := hp.1; omega)
    rw [canS_next ho hl]
    split
    · exact ⟨h1, fun j hj => h2 j (by omega)⟩
    · split
      · obtain ⟨g1, g2⟩ := canStep_inv (S := S) (l := l) (o := o.toNat) (r := (‹Opt›).place.room) (c := c) (st := canS m plan S c)
        exact ⟨by rw [g1, h1], fun j hj => by rw [g2 j (by omega), h2 j (by omega)]⟩
      · exact ⟨h1, fun j hj => h2 j (by omega)⟩
theorem setF_len {S : List (List Int)} {r : Int} {n : Nat} (h : ∀ s ∈ S, s.length ≤ n) : (setF S r).length ≤ n := by
  unfold setF
  cases hf : S.find? fun s => pB (r ∈ s) with
  | none => exact Nat.zero_le _
  | some s => exact h s (List.mem_of_find?_eq_some hf)
theorem c_canon0 (m : Model) (plan : List Int) (hl : Laid m) : PCall Tryz.prog 19 [ag m.cells, .pv (encInts plan)] (fun r => Leq r (.tup [.pv (.sl 1 ((canR m plan).map intRow)), vint .i64 (canE m plan)])) := by
  have hv := c_valid m hl
  by_cases hok : modelE m = 0
  · have hz := model_sized hok
    have hp := c_isPlan m plan hz
    rw [hok] at hv
    by_cases hpl : isPlanP m plan
    · rw [pB_t hpl] at hp
      have hR := c_Rooms m hl
      rcases plan with _ | ⟨p0, plan⟩
      · have e1 : canE m [] = 0 := by unfold canE; rw [if_pos hok, pB_t hpl]; rfl
        have e2 : canR m [] = [] := by unfold canR; rw [if_pos e1]; rfl
        rw [e1, e2]
        have hce := c_cloneIE 0
        refine acall_of tok mixed 122 rfl (fn := Tryz.f19) (c := Tryz.f19.body.getD .skip) (by kernel_rfl) (by kernel_rfl) (by kernel_rfl) rfl 0 rfl ?_
        repeat' (first | ((change vcFun _ _ _ _ _; refine call_frz rfl (by repeat' (first | trivial | refine And.intro ?_ ?_ | (show 0 + _ ≤ List.length _; simp))) ALeL.refl hR ?_; rintro _ rfl)) | ((change vcFun _ _ _ _ _; refine call_frz rfl (by repeat' (first | trivial | refine And.intro ?_ ?_ | (show 0 + _ ≤ List.length _; simp))) ALeL.refl hce ?_; rintro _ rfl)) | refine o1 ?_ | refine o2 ?_ | refine k1 ?_ | refine k2 ?_ | refine k3 ?_ | refine k4 ?_ | refine k6 ?_ | refine And.intro ?_ ?_ | (intro h; first | exact Bool.noConfusion h | exact nz _ h | exact nl h | (simp at h; done) | (simp at h; first | (exfalso; omega) | skip) | skip) | refine eqv_len_map ?_ | (change vcFun _ _ _ _ _; refine call_eq rfl (by repeat' (first | trivial | refine And.intro ?_ ?_ | (show 0 + _ ≤ List.length _; simp))) ALeL.refl (hv) rfl ?_) | (change vcFun _ _ _ _ _; refine call_eq rfl (by repeat' (first | trivial | refine And.intro ?_ ?_ | (show 0 + _ ≤ List.length _; simp))) ALeL.refl (hp) rfl ?_) | fail)
        refine loop_for (fun _ : Unit => [(8, .pv (.sl 1 [])), (39, vint .i64 (0 : Nat)), (40, vint .i64 (0 : Nat))]) (fun _ => []) (fun _ => True) (fun _ => 0) () trivial ?_ ?_
        · exact back [] rfl rfl trivial (by repeat' (first | exact trivial | exact rfl | refine And.intro ?_ ?_))
        intro _ _
        repeat' (first | refine o1 ?_ | refine o2 ?_ | refine k1 ?_ | refine k2 ?_ | refine k3 ?_ | refine k7 ?_ | refine k8 ?_ | refine And.intro ?_ ?_ | (intro h; first | exact Bool.noConfusion h | exact nz _ h | exact nl h | (simp at h; done) | (simp at h; first | (exfalso; omega) | skip) | skip) | (change retOk _ _ _ _; refine ret_pure rfl trivial ?_) | fail)
        exact ⟨ALe.refl⟩
      have hcl : 0 < (p0 :: plan).length ∧ (p0 :: plan).length ≤ 100000 := ⟨by simp, by have := hpl.1; have := hz.1; omega⟩
      have e1 : canE m (p0 :: plan) = 0 := by unfold canE; rw [if_pos hok, pB_t hpl]; rfl
      have e2 : canR m (p0 :: plan) = (canS m (p0 :: plan) (setsV m) (p0 :: plan).length).1 := by unfold canR; rw [if_pos e1]; rfl
      rw [e1, e2]
      have hSl := setsV_len (m := m)
      generalize setsV m = S at *
      generalize hpn : p0 :: plan = pl at *
      refine acall_of tok mixed 122 rfl (fn := Tryz.f19) (c := Tryz.f19.body.getD .skip) (by kernel_rfl) (by kernel_rfl) (by kernel_rfl) rfl 0 rfl ?_
      repeat' (first | ((change vcFun _ _ _ _ _; refine call_frz rfl (by repeat' (first | trivial | refine And.intro ?_ ?_ | (show 0 + _ ≤ List.length _; simp))) ALeL.refl hR ?_; rintro _ rfl)) | ((change vcFun _ _ _ _ _; refine call_cloneI hcl ?_)) | refine o1 ?_ | refine o2 ?_ | refine k1 ?_ | refine k2 ?_ | refine k3 ?_ | refine k4 ?_ | refine k6 ?_ | refine And.intro ?_ ?_ | (intro h; first | exact Bool.noConfusion h | exact nz _ h | exact nl h | (simp at h; done) | (simp at h; first | (exfalso; omega) | skip) | skip) | refine eqv_len_map ?_ | (change vcFun _ _ _ _ _; refine call_eq rfl (by repeat' (first | trivial | refine And.intro ?_ ?_ | (show 0 + _ ≤ List.length _; simp))) ALeL.refl (hv) rfl ?_) | (change vcFun _ _ _ _ _; refine call_eq rfl (by repeat' (first | trivial | refine And.intro ?_ ?_ | (show 0 + _ ≤ List.length _; simp))) ALeL.refl (hp) rfl ?_) | fail)
      refine loop_for (fun c : Nat => [(2, .ptr 0 4 0 0), (7, .pv (.sl 1 (S.map lstRow))), (8, .ms 1 1 0 pl.length), (9, .mp 2), (10, .mp 3), (38, .pv (encInts pl)), (39, vint .i64 pl.length), (40, vint .i64 c)])
        (fun c => [mdlO m, some ⟨3, 1, false, .p ((canS m pl S c).1.map intRow)⟩, mapN 82 fTo (canS m pl S c).2, mapN 83 fTk (canS m pl S c).2])
        (fun c => c ≤ pl.length) (fun c => pl.length - c) 0 (Nat.zero_le _) ?_ ?_
      · exact back [0, 1, 2, 3] rfl rfl ⟨rfl, rfl, rfl, rfl, trivial⟩ (by repeat' (first | exact trivial | exact rfl | refine And.intro ?_ ?_))
      intro c hc
      have hinv := canS_inv (m := m) (plan := pl) (S := S) hpl hc
      rcases Nat.lt_or_ge c pl.length with hcl2 | hcg
      · obtain ⟨o, ho⟩ := getE hcl2
        obtain ⟨l, hll⟩ := getE (l := m.classes) (i := c) (by have := hpl.1; omega)
        have hop := hpl.2 c hcl2 o l ho hll
        have hln := hz.2.1 l (List.mem_of_getElem? hll)
        have hcn := canS_next (S := S) ho hll
        generalize canS m pl S c = st0 at *
        obtain ⟨out, E⟩ := st0
        dsimp only at hinv hcn ⊢
        by_cases ho0 : o < 0
        · rw [if_pos ho0] at hcn
          repeat' (first | (refine idx_sl (k := c) (at_map ho) (by omega) ?_) | refine o1 ?_ | refine o2 ?_ | refine k1 ?_ | refine k2 ?_ | refine k3 ?_ | refine k4 ?_ | refine k6 ?_ | refine k8 ?_ | refine And.intro ?_ ?_ | (intro h; first | exact Bool.noConfusion h | exact nz _ h | exact nl h | (simp at h; done) | (simp at h; first | (exfalso; omega) | skip) | skip) | refine eqv_wrap (by omega) (by omega) ?_ | fail)
          exact ⟨c + 1, by omega, by omega, (by rw [hcn]; exact back [0, 1, 2, 3] rfl rfl ⟨rfl, rfl, kept_mpN rfl (kept_mpN rfl trivial)⟩ (by repeat' (first | exact trivial | exact rfl | refine And.intro ?_ ?_)))⟩
        obtain ⟨q, rfl⟩ : ∃ q : Nat, o = q := ⟨o.toNat, by omega⟩
        obtain ⟨op, hop2⟩ := getE (l := l) (i := q) (by omega)
        rw [if_neg ho0] at hcn
        dsimp only [mdlO]
        repeat' (first | (refine idx_sl (k := c) (at_map ho) (by omega) ?_) | (refine idx_sl (k := c) (at_map hll) (by omega) ?_) | (refine idx_sl (k := q) (at_map hop2) (by omega) ?_) | (refine join_in (a := .region 14 _ _) (fun _ => [(14, vint .i64 op.place.room), (15, .mp 4)]) (fun _ : Unit => [mdlO m, some ⟨3, 1, false, .p (out.map intRow)⟩, mapN 82 fTo E, mapN 83 fTk E, mapP 85 (grpE l l.length)]) (fun _ => True) ?_) | ((show xCode _ _ _ _ (.region 14 _ _) _ _ _; refine code_region_any ?_)) | ((change vcFun _ _ _ _ _; refine call_index (by omega) ?_)) | ((change ∃ x : Unit, _ ∧ _; exact ⟨(), trivial, back [0, 1, 2, 3, 4] rfl rfl ⟨rfl, rfl, kept_mpN rfl (kept_mpN rfl (kept_mp rfl trivial))⟩ (by repeat' (first | exact trivial | exact rfl | exact ⟨_, rfl, ALe.refl⟩ | refine And.intro ?_ ?_))⟩)) | refine o1 ?_ | refine o2 ?_ | refine k1 ?_ | refine k2 ?_ | refine k3 ?_ | refine k4 ?_ | refine k6 ?_ | refine And.intro ?_ ?_ | exact trivial | refine o5 ?_ | refine o6 ?_ | (intro h; first | exact Bool.noConfusion h | exact nz _ h | exact nl h | (simp at h; done) | (simp at h; first | (exfalso; omega) | skip) | skip) | fail)
        refine ⟨?_⟩
        intro _ _
        have hcn : canS m pl S (c + 1) = canStep S l q op.place.room c (out, E) := by rw [hcn, Int.toNat_natCast, hop2]
        have hoc : out[c]? = some (q : Int) := by rw [hinv.2 c (Nat.le_refl _), ho]
        have hol : out.length = pl.length := hinv.1
        generalize op.place.room = r at *
        generalize hEg : grpE l l.length = G at *
        have hgt := get_to (E := E) (r := r)
        rcases hto : toF E r with _ | t
        · rw [hto] at hgt
          have hso := c_setOf S r (by omega) fun s hs => by have := hSl.2 s hs; omega
          have hcn1 : canS m pl S (c + 1) = (out.set c ((setF S r).foldl (pickS E fun t => imgI (imgO l q t)) (-1, (q : Int))).2, if 0 ≤ ((setF S r).foldl (pickS E fun t => imgI (imgO l q t)) (-1, (q : Int))).1 then E ++ [(r, ((setF S r).foldl (pickS E fun t => imgI (imgO l q t)) (-1, (q : Int))).1)] else E) := by rw [hcn]; unfold canStep; dsimp only; rw [hto]
          have hql : (setF S r).length ≤ 576 := setF_len hSl.2
          have hfree := pick_free (E := E) (g := fun t => imgI (imgO l q t)) (l := setF S r) (st := (-1, (q : Int))) (.inl (by show (-1 : Int) < 0; decide))
          generalize setF S r = sq at *
          repeat' (first | (refine eqv_to none hgt ?_) | ((change vcFun _ _ _ _ _; refine call_frz rfl (by repeat' (first | trivial | refine And.intro ?_ ?_ | (show 0 + _ ≤ List.length _; simp))) ALeL.refl hso ?_; rintro _ rfl)) | refine o1 ?_ | refine o2 ?_ | refine k1 ?_ | refine k2 ?_ | refine k3 ?_ | refine k4 ?_ | refine k6 ?_ | refine And.intro ?_ ?_ | (intro h; first | exact Bool.noConfusion h | exact nz _ h | exact nl h | (simp at h; done) | (simp at h; first | (exfalso; omega) | skip) | skip) | refine eqv_len_map ?_ | fail)
          refine loop_for (fun k : Nat => [(2, .ptr 0 4 0 0), (7, .pv (.sl 1 (S.map lstRow))), (8, .ms 1 1 0 pl.length), (9, .mp 2), (10, .mp 3), (38, .pv (encInts pl)), (39, vint .i64 pl.length), (40, vint .i64 c), (11, vint .i64 c), (12, vint .i64 q), (13, .pv (.sl 6 (l.map Opt.row))), (14, vint .i64 r), (15, .mp 4), (18, vint .i64 ((sq.take k).foldl (pickS E fun t => imgI (imgO l q t)) (-1, (q : Int))).1), (80, .pv (.sl 1 (sq.map intRow))), (81, vint .i64 sq.length), (82, vint .i64 k)])
            (fun k => [mdlO m, some ⟨3, 1, false, .p ((out.set c ((sq.take k).foldl (pickS E fun t => imgI (imgO l q t)) (-1, (q : Int))).2).map intRow)⟩, mapN 82 fTo E, mapN 83 fTk E, mapP 85 G])
            (fun k => k ≤ sq.length) (fun k => sq.length - k) 0 (Nat.zero_le _) ?_ ?_
          · have h0 : out.set c ((sq.take 0).foldl (pickS E fun t => imgI (imgO l q t)) (-1, (q : Int))).2 = out := set_same hoc
            rw [h0]
            exact back [0, 1, 2, 3, 4] rfl rfl ⟨rfl, rfl, kept_mpN rfl (kept_mpN rfl (kept_mp rfl trivial))⟩ (by repeat' (first | exact trivial | exact rfl | refine And.intro ?_ ?_))
          intro k hk
          rcases Nat.lt_or_ge k sq.length with hkl | hkg
          · obtain ⟨t, ht⟩ := getE hkl
            have hst : (sq.take (k + 1)).foldl (pickS E fun t => imgI (imgO l q t)) (-1, (q : Int)) = pickS E (fun t => imgI (imgO l q t)) ((sq.take k).foldl (pickS E fun t => imgI (imgO l q t)) (-1, (q : Int))) t := by rw [tk_snoc ht, List.foldl_append]; rfl
            generalize (sq.take k).foldl (pickS E fun t => imgI (imgO l q t)) (-1, (q : Int)) = st0 at *
            obtain ⟨b, x⟩ := st0
            dsimp only at hst ⊢
            have hgk := get_tk (E := E) (t := t)
            have hcx : (out.set c x)[c]? = some x := by rw [List.getElem?_set_self (by omega)]
            cases htk : takenB E t
            · rw [htk] at hgk
              have hgk : getM (.int .i64 t) (numM fTk 0 E) = none := hgk
              repeat' (first | (refine idx_sl (k := k) (at_map ht) (by omega) ?_) | (refine eqv_to none hgk ?_) | ((change vcFun _ _ _ _ _; refine call_image 4 hEg.symm rfl (by omega) (by omega) ?_; rw [imgA_eq])) | (refine ⟨_, at_map hcx, ?_⟩) | refine o1 ?_ | refine o2 ?_ | refine k1 ?_ | refine k2 ?_ | refine k3 ?_ | refine k4 ?_ | refine k6 ?_ | refine And.intro ?_ ?_ | (intro h; first | exact Bool.noConfusion h | exact nz _ h | exact nl h | (simp at h; done) | (simp at h; first | (exfalso; omega) | skip) | skip) | exact Nat.le_of_ble_eq_true rfl | refine eqv_zero ?_ | refine eqv_wrap (by omega) (by omega) ?_ | refine eqv_to _ (set_map rfl rfl) ?_ | refine idx_ms _ (by first | rfl | assumption) (by first | assumption | omega) ?_ | fail)
              all_goals first
                | (exfalso; omega)
                | (refine ⟨k + 1, by omega, by omega, ?_⟩
                   rw [hst, pickS_put htk (by show b < 0 ∨ imgI (imgO l q t) < x; omega), List.set_set]
                   exact back [0, 1, 2, 3, 4] rfl rfl ⟨rfl, rfl, kept_mpN rfl (kept_mpN rfl (kept_mp rfl trivial))⟩ (by repeat' (first | exact trivial | exact rfl | refine And.intro ?_ ?_)))
                | (refine ⟨k + 1, by omega, by omega, ?_⟩
                   rw [hst, pickS_skip htk (by show ¬ (b < 0 ∨ imgI (imgO l q t) < x); omega)]
                   exact back [0, 1, 2, 3, 4] rfl rfl ⟨rfl, rfl, kept_mpN rfl (kept_mpN rfl (kept_mp rfl trivial))⟩ (by repeat' (first | exact trivial | exact rfl | refine And.intro ?_ ?_)))
            · rw [htk] at hgk
              have hgk : getM (.int .i64 t) (numM fTk 0 E) = some (vbool true) := hgk
              rw [pickS_taken htk] at hst
              repeat' (first | (refine idx_sl (k := k) (at_map ht) (by omega) ?_) | (refine eqv_to _ hgk ?_) | refine o1 ?_ | refine o2 ?_ | refine k1 ?_ | refine k2 ?_ | refine k3 ?_ | refine k4 ?_ | refine k6 ?_ | refine k8 ?_ | refine And.intro ?_ ?_ | (intro h; first | exact Bool.noConfusion h | exact nz _ h | exact nl h | (simp at h; done) | (simp at h; first | (exfalso; omega) | skip) | skip) | refine eqv_wrap (by omega) (by omega) ?_ | fail)
              all_goals first
                | (exfalso; omega)
                | exact ⟨k + 1, by omega, by omega, (by rw [hst]; exact back [0, 1, 2, 3, 4] rfl rfl ⟨rfl, rfl, kept_mpN rfl (kept_mpN rfl (kept_mp rfl trivial))⟩ (by repeat' (first | exact trivial | exact rfl | refine And.intro ?_ ?_)))⟩
          · obtain rfl : k = sq.length := by omega
            rw [List.take_length]
            generalize sq.foldl (pickS E fun t => imgI (imgO l q t)) (-1, (q : Int)) = st0 at *
            obtain ⟨b, x⟩ := st0
            dsimp only at hcn1 hfree ⊢
            by_cases hb0 : 0 ≤ b
            · rw [if_pos hb0] at hcn1
              have htk : takenB E b = false := hfree.elim (fun h => by omega) id
              have hp1 := put_to (b := b) hto
              have hp2 := put_tk (r := r) htk
              have hc1 := ck_to (b := b) hto
              have hc2 := ck_tk (r := r) htk
              repeat' (first | (refine eqv_to _ hp1 ?_) | (refine eqv_to _ hp2 ?_) | (refine eqv_to _ hc1 ?_) | (refine eqv_to _ hc2 ?_) | refine o1 ?_ | refine o2 ?_ | refine k1 ?_ | refine k2 ?_ | refine k3 ?_ | refine k8 ?_ | refine And.intro ?_ ?_ | (intro h; first | exact Bool.noConfusion h | exact nz _ h | exact nl h | (simp at h; done) | (simp at h; first | (exfalso; omega) | skip) | skip) | refine eqv_wrap (by omega) (by omega) ?_ | fail)
              all_goals first
                | (exfalso; omega)
                | exact ⟨c + 1, by omega, by omega, (by rw [hcn1]; exact back [0, 1, 2, 3] rfl rfl ⟨rfl, rfl, kept_mpN rfl (kept_mpN rfl trivial)⟩ (by repeat' (first | exact trivial | exact rfl | refine And.intro ?_ ?_)))⟩
            · rw [if_neg hb0] at hcn1
              repeat' (first | refine o1 ?_ | refine o2 ?_ | refine k1 ?_ | refine k2 ?_ | refine k3 ?_ | refine k6 ?_ | refine k8 ?_ | refine And.intro ?_ ?_ | (intro h; first | exact Bool.noConfusion h | exact nz _ h | exact nl h | (simp at h; done) | (simp at h; first | (exfalso; omega) | skip) | skip) | refine eqv_wrap (by omega) (by omega) ?_ | fail)
              all_goals first
                | (exfalso; omega)
                | exact ⟨c + 1, by omega, by omega, (by rw [hcn1]; exact back [0, 1, 2, 3] rfl rfl ⟨rfl, rfl, kept_mpN rfl (kept_mpN rfl trivial)⟩ (by repeat' (first | exact trivial | exact rfl | refine And.intro ?_ ?_)))⟩
        · rw [hto] at hgt
          have hcn1 : canS m pl S (c + 1) = (out.set c (imgI (imgO l q t)), E) := by rw [hcn]; unfold canStep; dsimp only; rw [hto]
          repeat' (first | (refine eqv_to _ hgt ?_) | ((change vcFun _ _ _ _ _; refine call_image 4 hEg.symm rfl (by omega) (by omega) ?_; rw [imgA_eq])) | refine o1 ?_ | refine o2 ?_ | refine k1 ?_ | refine k2 ?_ | refine k3 ?_ | refine k8 ?_ | refine And.intro ?_ ?_ | (intro h; first | exact Bool.noConfusion h | exact nz _ h | exact nl h | (simp at h; done) | (simp at h; first | (exfalso; omega) | skip) | skip) | exact Nat.le_of_ble_eq_true rfl | refine eqv_zero ?_ | refine eqv_wrap (by omega) (by omega) ?_ | refine eqv_to _ (set_map rfl rfl) ?_ | refine ⟨_, at_map (by assumption), ?_⟩ | refine idx_ms _ (by first | rfl | assumption) (by first | assumption | omega) ?_ | fail)
          all_goals first
            | exact ⟨c + 1, by omega, by omega, (by rw [hcn1]; exact back [0, 1, 2, 3] rfl rfl ⟨rfl, rfl, kept_mpN rfl (kept_mpN rfl trivial)⟩ (by repeat' (first | exact trivial | exact rfl | refine And.intro ?_ ?_)))⟩
      · obtain rfl : c = pl.length := by omega
        obtain ⟨hol, _⟩ := hinv
        generalize (canS m pl S pl.length) = st0 at *
        obtain ⟨out, E⟩ := st0
        dsimp only at hol ⊢
        dsimp only [mdlO]
        repeat' (first | refine o1 ?_ | refine o2 ?_ | refine k1 ?_ | refine k2 ?_ | refine k3 ?_ | refine k7 ?_ | refine k8 ?_ | refine And.intro ?_ ?_ | (intro h; first | exact Bool.noConfusion h | exact nz _ h | exact nl h | (simp at h; done) | (simp at h; first | (exfalso; omega) | skip) | skip) | fail)
        refine ret_pure (r0 := .tup [.pv (.sl 1 (((out.map intRow).drop 0).take pl.length)), vint .i64 0]) rfl ?_ ?_
        · refine ⟨?_, trivial⟩
          show 0 + pl.length ≤ _
          rw [List.length_map]; omega
        · rw [List.drop_zero, List.take_of_length_le (by rw [List.length_map]; omega)]
          exact ⟨ALe.refl⟩
    · rw [pB_f hpl] at hp
      have e1 : canE m plan = 17 := by unfold canE; rw [if_pos hok, pB_f hpl]; rfl
      have e2 : canR m plan = [] := by unfold canR; rw [if_neg (by rw [e1]; decide)]
      rw [e1, e2]
      refine acall_of tok mixed 122 rfl (fn := Tryz.f19) (c := Tryz.f19.body.getD .skip) (by kernel_rfl) (by kernel_rfl) (by kernel_rfl) rfl 0 rfl ?_
      repeat' (first | refine o1 ?_ | refine o2 ?_ | refine k1 ?_ | refine k2 ?_ | refine k3 ?_ | refine k6 ?_ | refine k7 ?_ | refine And.intro ?_ ?_ | (intro h; first | exact Bool.noConfusion h | exact nz _ h | exact nl h | (simp at h; done) | (simp at h; first | (exfalso; omega) | skip) | skip) | (change retOk _ _ _ _; refine ret_pure rfl trivial ?_) | (change vcFun _ _ _ _ _; refine call_eq rfl (by repeat' (first | trivial | refine And.intro ?_ ?_ | (show 0 + _ ≤ List.length _; simp))) ALeL.refl (hv) rfl ?_) | (change vcFun _ _ _ _ _; refine call_eq rfl (by repeat' (first | trivial | refine And.intro ?_ ?_ | (show 0 + _ ≤ List.length _; simp))) ALeL.refl (hp) rfl ?_) | fail)
      exact ⟨ALe.tup ⟨ALe.pv PLe.nil, ALe.refl, trivial⟩⟩
  · have e1 : canE m plan = modelE m := by unfold canE; rw [if_neg hok]
    have e2 : canR m plan = [] := by unfold canR; rw [if_neg (by rw [e1]; exact hok)]
    rw [e1, e2]
    refine acall_of tok mixed 122 rfl (fn := Tryz.f19) (c := Tryz.f19.body.getD .skip) (by kernel_rfl) (by kernel_rfl) (by kernel_rfl) rfl 0 rfl ?_
    repeat' (first | refine o1 ?_ | refine o2 ?_ | refine k1 ?_ | refine k2 ?_ | refine k3 ?_ | refine k7 ?_ | refine And.intro ?_ ?_ | (intro h; first | exact Bool.noConfusion h | exact nz _ h | exact nl h | (simp at h; done) | (simp at h; first | (exfalso; omega) | skip) | skip) | (change retOk _ _ _ _; refine ret_pure rfl trivial ?_) | (change vcFun _ _ _ _ _; refine call_eq rfl (by repeat' (first | trivial | refine And.intro ?_ ?_ | (show 0 + _ ≤ List.length _; simp))) ALeL.refl (hv) rfl ?_) | fail)
    all_goals first
      | (exfalso; omega)
      | exact ⟨ALe.tup ⟨ALe.pv PLe.nil, ALe.refl, trivial⟩⟩
theorem c_canon (m : Model) (plan : List Int) (hl : Laid m) : PCall Tryz.prog 19 [ag m.cells, .pv (encInts plan)] (fun r => r = .tup [.pv (.sl 1 ((canR m plan).map intRow)), vint .i64 (canE m plan)]) := (c_canon0 m plan hl).weak fun r k => ⟨_, k.le, rfl⟩
end Go.Proofs.YtihpjcmloecaaaaGreat.Cw
/-
  Symmetry, plain: the sets of rooms; what the steps of the canonical plan do.
-/
namespace Go.Proofs.YtihpjcmloecaaaaGreat.Cw
open Go Go.Cw Go.Proofs
set_option linter.unusedVariables false
theorem exch_symm {r a b : Int} : exch r a b = exch r b a := by
  unfold exch
  split
  · split
    · omega
    · rfl
  · split <;> rfl
theorem swapO_symm {l : List Opt} {a b : Int} {i : Nat} : swapO l a b i = swapO l b a i := by
  unfold swapO
  cases l[i]? with
  | none => rfl
  | some o => simp only [exch_symm]
theorem imN_symm {l : List Opt} {a b : Int} {i : Nat} : imN l a b i = imN l b a i := by unfold imN; rw [swapO_symm]
theorem swapP_symm {m : Model} {a b : Int} (h : swapP m a b) : swapP m b a := by
  obtain ⟨h1, h2, h3⟩ := h
  refine ⟨fun l hl i hi => ?_, fun p hp x y hx hy i hi k hk => ?_, ?_⟩
  · obtain ⟨j, o, q, g⟩ := h1 l hl i hi
    exact ⟨j, o, q, by rw [← swapO_symm]; exact g.1, g.2⟩
  · rw [← imN_symm, ← imN_symm (l := y)]; exact h2 p hp x y hx hy i hi k hk
  · unfold cntSame at *
    rw [h3]
    congr 1
    funext l
    unfold imLoad
    cases m.classes[l.cls.toNat]? with
    | none => rfl
    | some x => simp only [imN_symm]
structure SetsOk (m : Model) (l : List Int) (S : List (List Int)) : Prop where
  sub : ∀ s ∈ S, ∀ x ∈ s, x ∈ l
  nd : ∀ s ∈ S, s.Nodup
  dis : S.Pairwise fun s t => ∀ x ∈ s, x ∉ t
  sw : ∀ s ∈ S, ∀ x ∈ s, ∀ y ∈ s, x ≠ y → swapP m x y
theorem sets_ok {m : Model} (hz : sizedP m) (hg : goodP m) : ∀ {n : Nat} {l : List Int}, l.Nodup → SetsOk m l (setsF m n l)
  | 0, l, _ => ⟨fun s h => absurd h List.not_mem_nil, fun s h => absurd h List.not_mem_nil, List.Pairwise.nil, fun s h => absurd h List.not_mem_nil⟩
  | n + 1, [], _ => ⟨fun s h => absurd h List.not_mem_nil, fun s h => absurd h List.not_mem_nil, List.Pairwise.nil, fun s h => absurd h List.not_mem_nil⟩
  | n + 1, x :: l, hnd => by
    obtain ⟨hx, hl⟩ := List.nodup_cons.1 hnd
    have ih := sets_ok hz hg (n := n) (l := l.filter fun b => !swB m x b) (List.Pairwise.filter _ hl)
    have hset : SetsOk m (x :: l) [x :: l.filter (swB m x)] := by
      refine ⟨fun s h y hy => ?_, fun s h => ?_, List.pairwise_singleton .., fun s h y hy z hz' hne => ?_⟩
      · obtain rfl := List.mem_singleton.1 h
        rcases List.mem_cons.1 hy with rfl | hy
        · exact List.mem_cons_self ..
        · exact List.mem_cons_of_mem _ (List.mem_filter.1 hy).1
      · obtain rfl := List.mem_singleton.1 h
        exact List.nodup_cons.2 ⟨fun h => hx (List.mem_filter.1 h).1, List.Pairwise.filter _ hl⟩
      · obtain rfl := List.mem_singleton.1 h
        rcases List.mem_cons.1 hy with rfl | hy
        · rcases List.mem_cons.1 hz' with rfl | hz'
          · exact absurd rfl hne
          · exact sw_iff.1 (List.mem_filter.1 hz').2
        · have h1 := sw_iff.1 (List.mem_filter.1 hy).2
          rcases List.mem_cons.1 hz' with rfl | hz'
          · exact swapP_symm h1
          · have h2 := sw_iff.1 (List.mem_filter.1 hz').2
            have n1 : y ≠ x := fun e => hx (e ▸ (List.mem_filter.1 hy).1)
            have n2 : z ≠ x := fun e => hx (e ▸ (List.mem_filter.1 hz').1)
            exact swap_trans hz hg hne n1 n2 (swapP_symm h1) (swapP_symm h2)
    unfold setsF
    split
    · refine ⟨fun s h y hy => ?_, ih.nd, ih.dis, ih.sw⟩
      exact List.mem_cons_of_mem _ (List.mem_filter.1 (ih.sub s h y hy)).1
    · refine ⟨fun s h y hy => ?_, fun s h => ?_, ?_, fun s h => ?_⟩
      · rcases List.mem_append.1 h with h | h
        · exact hset.sub s h y hy
        · exact List.mem_cons_of_mem _ (List.mem_filter.1 (ih.sub s h y hy)).1
      · rcases List.mem_append.1 h with h | h
        · exact hset.nd s h
        · exact ih.nd s h
      · refine List.pairwise_append.2 ⟨hset.dis, ih.dis, fun s h t ht y hy hyt => ?_⟩
        obtain rfl := List.mem_singleton.1 h
        have h2 := List.mem_filter.1 (ih.sub t ht y hyt)
        rcases List.mem_cons.1 hy with rfl | hy
        · exact hx h2.1
        · have := (List.mem_filter.1 hy).2
          rw [this] at h2; simp at h2
      · rcases List.mem_append.1 h with h | h
        · exact hset.sw s h
        · exact ih.sw s h
theorem setsV_ok {m : Model} (hok : modelE m = 0) : SetsOk m (roomsV m) (setsV m) := by
  unfold setsV
  rw [if_pos hok]
  exact sets_ok (model_sized hok) (model_good hok) ((rooms_spec m).2.imp fun h => by omega)
theorem pairwise_mem {α : Type} {R : α → α → Prop} : ∀ {l : List α}, l.Pairwise R → ∀ {s t : α}, s ∈ l → t ∈ l → s = t ∨ R s t ∨ R t s
  | [], _, s, t, h, _ => absurd h List.not_mem_nil
  | a :: l, hp, s, t, hs, ht => by
    obtain ⟨h1, h2⟩ := List.pairwise_cons.1 hp
    rcases List.mem_cons.1 hs with e1 | hs1
    · rcases List.mem_cons.1 ht with e2 | ht1
      · exact .inl (e1.trans e2.symm)
      · exact .inr (.inl (e1 ▸ h1 t ht1))
    · rcases List.mem_cons.1 ht with e2 | ht1
      · exact .inr (.inr (e2 ▸ h1 s hs1))
      · exact pairwise_mem h2 hs1 ht1
theorem SetsOk.same {m : Model} {l : List Int} {S : List (List Int)} (h : SetsOk m l S) {s t : List Int} (hs : s ∈ S) (ht : t ∈ S) {x : Int} (h1 : x ∈ s) (h2 : x ∈ t) : s = t := by
  rcases pairwise_mem h.dis hs ht with e | e | e
  · exact e
  · exact absurd h2 (e x h1)
  · exact absurd h1 (e x h2)
end Go.Proofs.YtihpjcmloecaaaaGreat.Cw
/-
  Breaking symmetries, plain; and objects that are moved between a tail and a fixed place.
-/
namespace Go.Proofs.YtihpjcmloecaaaaGreat.Cw
open Go Go.Cw Go.Proofs
set_option linter.unusedVariables false
set_option maxRecDepth 100000
set_option maxHeartbeats 8000000
def forbI : Int := 1099511627776
noncomputable def inS (s : List Int) (o : Opt) : Bool := pB (o.place.room ∈ s)
noncomputable def hitS (s : List Int) (o : Opt) : Bool := inS s o && pB (o.place.room ≠ s.headD 0)
noncomputable def brkO (R : Int) (s : List Int) (o : Opt) : Opt := if hitS s o then ⟨o.place, o.charges ++ [⟨R, forbI⟩]⟩ else o
noncomputable def brkC (R : Int) (s : List Int) : List (List Opt) → List (List Opt)
  | [] => []
  | l :: L => if l.any (inS s) then l.map (brkO R s) :: L else l :: brkC R s L
noncomputable def brkL (R : Int) (S : List (List Int)) (L : List (List Opt)) : List (List Opt) := S.foldl (fun L s => brkC R s L) L
noncomputable def brkM (m : Model) : Model := ⟨brkL m.rules (setsV m) m.classes, m.pairs, m.counts, m.rules + 1⟩
section
variable {R : Int} {s : List Int} {L A B : List (List Opt)} {l : List Opt} {o : Opt}
theorem brkO_place : (brkO R s o).place = o.place := by unfold brkO; split <;> rfl
theorem brkC_at (hA : ∀ x ∈ A, x.any (inS s) = false) (hl : l.any (inS s) = true) : brkC R s (A ++ l :: B) = A ++ l.map (brkO R s) :: B := by
  induction A with
  | nil => simp [brkC, hl]
  | cons a A ih =>
    simp only [List.cons_append, brkC, hA a (by simp)]
    rw [ih fun x hx => hA x (by simp [hx])]
    rfl
theorem brkC_len : (brkC R s L).length = L.length := by
  induction L with
  | nil => rfl
  | cons l L ih => simp only [brkC]; split <;> simp [ih]
theorem brkL_len : ∀ {S : List (List Int)} {L : List (List Opt)}, (brkL R S L).length = L.length
  | [], _ => rfl
  | s :: S, L => (brkL_len (S := S)).trans brkC_len
def plcO (l : List Opt) : List Placed := l.map fun o => o.place
theorem brkC_plc : (brkC R s L).map plcO = L.map plcO := by
  induction L with
  | nil => rfl
  | cons l L ih =>
    simp only [brkC]
    split
    · simp only [List.map_cons]
      congr 1
      unfold plcO
      rw [List.map_map]
      exact List.map_congr_left fun o _ => brkO_place
    · simp only [List.map_cons, ih]
theorem brkL_plc : ∀ {S : List (List Int)} {L : List (List Opt)}, (brkL R S L).map plcO = L.map plcO
  | [], _ => rfl
  | s :: S, L => (brkL_plc (S := S)).trans brkC_plc
end
/-! moving objects -/
section
variable {H XT : Heap} {A B : List (List Opt)} {l : List Opt} {y z : Option AObj} {d F n q x i j : Nat} {rn fx : List Nat}
theorem kept_swap (hn : XT.length = n) (hq : q < n) (hinv : (XT.set q y).map (renOpt d rn) = XT.set q y) (hX : ∀ (t : Nat) (o : AObj), t ≠ q → XT[t]? = some (some o) → H[t + F]? = some (some o)) (hy : y = none ∨ H[x]? = some y) :
    kept H d rn ((List.range' F n).set q x) (XT.set q y) := by
  refine kept_map (by rw [List.length_set, List.length_set, List.length_range', hn]) fun t k hk o ho => ?_
  rw [hinv] at ho
  rw [rset_get] at hk
  have ht : t < n := by
    have := (List.getElem?_eq_some_iff.1 ho).1
    rwa [List.length_set, hn] at this
  rw [if_pos ht] at hk
  injection hk with hk
  rw [List.getElem?_set] at ho
  by_cases e : q = t
  · subst e
    rw [if_pos rfl, if_pos (by rw [hn]; exact hq)] at ho
    injection ho with ho
    subst ho
    rcases hy with h | h
    · cases h
    · rw [← hk, if_pos rfl]; exact h
  · rw [if_neg e] at ho
    rw [← hk, if_neg e]
    exact hX t o (fun h => e h.symm) ho
def mid (A : List (List Opt)) (cs : Heap) (y : Option AObj) (B : List (List Opt)) (n : Nat) : Heap := tailF (shF 10) 0 A ++ (cs ++ y :: tailF (shF 10) (nT A + n + 1) B)
theorem mid_of : tailF (shF 10) 0 (A ++ l :: B) = mid A (chsO l) (optO (shF 10) (nT A) l) B l.length := by
  rw [tailF_app]; simp [tailF, mid]
theorem mid_len {cs : Heap} (h : cs.length = l.length) : (mid A cs y B l.length).length = nT (A ++ l :: B) := by
  unfold mid
  simp only [List.length_append, List.length_cons, tailF_len, h, nT_app, nT]; omega
theorem mid_setP {cs : Heap} (h : cs.length = l.length) : (mid A cs y B l.length).set (nT A + l.length) z = mid A cs z B l.length := by
  unfold mid
  rw [List.set_append_right _ _ (by rw [tailF_len]; omega), tailF_len, Nat.add_sub_cancel_left, List.set_append_right _ _ (by omega), h, Nat.sub_self]
  rfl
theorem mid_setC {cs : Heap} (h : cs.length = l.length) (hi : i < l.length) : (mid A cs y B l.length).set (nT A + i) z = mid A (cs.set i z) y B l.length := by
  unfold mid
  rw [List.set_append_right _ _ (by rw [tailF_len]; omega), tailF_len, Nat.add_sub_cancel_left, List.set_append_left _ _ (by omega)]
def FixA (rn : List Nat) (d : Nat) (A : List (List Opt)) (l : List Opt) (B : List (List Opt)) : Prop := ∀ t, t < nT (A ++ l :: B) → t < nT A ∨ nT A + l.length < t → rn.getD (t + 10) d = t + 10
theorem mid_inv (hf : FixA rn d A l B) {cs : Heap} (hc : cs.map (renOpt d rn) = cs) (hy : renOpt d rn y = y) : (mid A cs y B l.length).map (renOpt d rn) = mid A cs y B l.length := by
  have hn : nT (A ++ l :: B) = nT A + (l.length + 1 + nT B) := by rw [nT_app]; rfl
  unfold mid
  rw [List.map_append, List.map_append, List.map_cons, hc, hy, tailF_ren, tailF_ren, tailF_congr (g := fun q => rn.getD (shF 10 q) d) (g' := shF 10) fun q _ h2 => hf q (by omega) (.inl (by omega)), tailF_congr (g := fun q => rn.getD (shF 10 q) d) (g' := shF 10) fun q h1 h2 => hf q (by omega) (.inr (by omega))]
theorem cls_mid {g : Nat → Nat} : clsF g 0 (A ++ l :: B) = clsF g 0 A ++ [clsC g (nT A) l] :: clsF g (nT A + l.length + 1) B := by
  rw [clsF_app, Nat.zero_add]; rfl
theorem cls_inv {z : List AV} (hf : FixA rn d A l B) : (clsF (shF 10) 0 A ++ z :: clsF (shF 10) (nT A + l.length + 1) B).map (renL d rn) = clsF (shF 10) 0 A ++ renL d rn z :: clsF (shF 10) (nT A + l.length + 1) B := by
  have hn : nT (A ++ l :: B) = nT A + (l.length + 1 + nT B) := by rw [nT_app]; rfl
  rw [List.map_append, List.map_cons, clsF_ren, clsF_ren, clsF_congr (g := fun q => rn.getD (shF 10 q) d) (g' := shF 10) fun q _ h2 => hf q (by omega) (.inl (by omega)), clsF_congr (g := fun q => rn.getD (shF 10 q) d) (g' := shF 10) fun q h1 h2 => hf q (by omega) (.inr (by omega))]
theorem fixA_swap (hF : fx.length = 10) (h1 : nT A ≤ q) (h2 : q ≤ nT A + l.length) : FixA (fx ++ (List.range' 10 (nT (A ++ l :: B))).set q x) d A l B := fun t ht h => by
  rw [rnS_get hF ht, if_neg (by omega)]
theorem optO_inv (h : ∀ t, nT A ≤ t → t < nT A + l.length → rn.getD (t + 10) d = t + 10) : renOpt d rn (optO (shF 10) (nT A) l) = optO (shF 10) (nT A) l := by
  rw [optO_ren]
  unfold optO
  rw [rowsF_congr (g := fun q => rn.getD (shF 10 q) d) (g' := shF 10) fun q h1 h2 => h q h1 h2]
end
end Go.Proofs.YtihpjcmloecaaaaGreat.Cw
/-
  twin.Model: a copy of a model whose classes, options and charges are objects of their own.
-/
namespace Go.Proofs.YtihpjcmloecaaaaGreat.Cw
open Go Go.Cw Go.Proofs
set_option linter.unusedVariables false
set_option maxRecDepth 100000
set_option maxHeartbeats 30000000
theorem far_slP {k m id z : Nat} {rows : List (List PV)} (h : id < k ∨ k + m ≤ id) : far k m (slP id z rows) = true := by
  cases rows with
  | nil => rfl
  | cons a l => simp [slP, far]; exact h
theorem farL_pvs {k m : Nat} : ∀ {l : List PV}, farL k m (pvs l) = true
  | [] => rfl
  | p :: l => by simp [pvs, farL, far, farL_pvs (l := l)]
theorem back_class {n : Nat} {m : Model} {A : List (List Opt)} {l : List Opt} {R : List (List AV)} {x5 x7 : Option AObj} {Γ' G0 : Slots} (hR : clsF (shF 8) 0 A = R)
    (hG : ∀ d rest, refSlots d (0 :: 1 :: 2 :: rest) Γ' G0) :
    Ghost n 0 Γ' (boxA m :: boxB :: boxM (.ms 6 1 0 (R.length + 1)) nilA nilA m.rules :: none :: obM 62 6 (rowsF (shF 8) (nT A) l) :: x5 :: some ⟨51, 1, false, .m (R ++ [[slC 4 6 (rowsF (shF 8) (nT A) l)]])⟩ :: x7 :: (tailF (shF 8) 0 A ++ chsO l)) G0 (hpO m (A ++ [l]) none) := by
  have hN : nT (A ++ [l]) = nT A + l.length + 1 := nT_snoc
  have hg : ∀ {d : Nat} q, q ≤ nT A + l.length → ([0, 1, 2, 6, 3, 5, 7, 8 + (nT A + l.length)] ++ (List.range' 8 (nT A + l.length) ++ [4])).getD (shF 8 q) d = if q = nT A + l.length then 4 else shF 8 q := fun q hq => rnE_get (by rfl) hq
  have hcl : ∀ d, (clsF (shF 8) 0 (A ++ [l])).map (renL d ([0, 1, 2, 6, 3, 5, 7, 8 + (nT A + l.length)] ++ (List.range' 8 (nT A + l.length) ++ [4]))) = R ++ [[slC 4 6 (rowsF (shF 8) (nT A) l)]] := fun d => by
    rw [clsF_ren, clsF_app]
    congr 1
    · rw [← hR]
      exact clsF_congr fun q _ h2 => by rw [hg q (by omega), if_neg (by omega)]
    · simp only [clsF, Nat.zero_add]
      congr 2
      cases l with
      | nil => rfl
      | cons o t =>
        simp only [clsC]
        rw [show t.length + 1 = (o :: t).length from rfl, hg _ (Nat.le_refl _), if_pos rfl, slC_pos (by rw [rowsF_len]; simp), rowsF_len]
  have hY : tailF (shF 8) 0 (A ++ [l]) = (tailF (shF 8) 0 A ++ chsO l) ++ [optO (shF 8) (nT A) l] := by
    rw [tailF_app]; simp [tailF]
  have hYr : ∀ d, (tailF (shF 8) 0 (A ++ [l])).map (renOpt d ([0, 1, 2, 6, 3, 5, 7, 8 + (nT A + l.length)] ++ (List.range' 8 (nT A + l.length) ++ [4]))) = (tailF (shF 8) 0 A ++ chsO l) ++ [optO (shF 8) (nT A) l] := fun d => by
    rw [hY, List.map_append, List.map_append, chsO_ren, tailF_ren, tailF_congr (g' := shF 8) fun q _ h2 => by rw [hg q (by omega), if_neg (by omega)]]
    simp only [List.map_cons, List.map_nil, optO_ren]
    unfold optO
    rw [rowsF_congr (g' := shF 8) fun q _ h2 => by rw [hg q (by omega), if_neg (by omega)]]
  refine back ([0, 1, 2, 6, 3, 5, 7, 8 + (nT A + l.length)] ++ (List.range' 8 (nT A + l.length) ++ [4])) (rnE_allD ?_ ?_) rfl ?_ (hG _ _)
  · apply allD_of
    simp
    omega
  · intro a ha
    simp at ha
    omega
  · show kept _ _ _ (0 :: 1 :: 2 :: 6 :: 3 :: 5 :: 7 :: (8 + (nT A + l.length)) :: (List.range' 8 (nT A + l.length) ++ [4])) _
    refine ⟨rfl, rfl, kept_boxM rfl ?_ rfl rfl (kept_obM (rows' := R ++ [[slC 4 6 (rowsF (shF 8) (nT A) l)]]) ?_ (hcl _) ?_)⟩
    · rw [slC_ren, hcl, slC_app]; rfl
    · rw [obM_app]; rfl
    · show kept _ _ _ (List.range' 8 (nT A + l.length) ++ [4]) (tailF (shF 8) 0 (A ++ [l]))
      refine kept_map ?_ fun q i hq o ho => ?_
      · rw [tailF_len, hN, List.length_append, List.length_range']; rfl
      · rw [hYr] at ho
        have hlen : (tailF (shF 8) 0 A ++ chsO l).length = nT A + l.length := by rw [List.length_append, tailF_len, chsO_len]
        rcases Nat.lt_or_ge q (nT A + l.length) with h | h
        · rw [List.getElem?_append_left (by rw [List.length_range']; exact h), List.getElem?_range' h, Nat.one_mul] at hq
          injection hq with hq
          subst hq
          rw [List.getElem?_append_left (by rw [hlen]; exact h)] at ho
          rw [show 8 + q = q + 8 from Nat.add_comm _ _]
          exact ho
        · rw [List.getElem?_append_right (by rw [List.length_range']; exact h), List.length_range'] at hq
          rw [List.getElem?_append_right (by rw [hlen]; exact h), hlen] at ho
          obtain ⟨rfl⟩ : q = nT A + l.length := by
            rcases Nat.lt_or_ge (q - (nT A + l.length)) 1 with h3 | h3
            · omega
            · rw [List.getElem?_eq_none (by simpa using h3)] at hq; cases hq
          rw [Nat.sub_self] at hq ho
          obtain rfl : 4 = i := by simpa using hq
          exact (Option.some.inj ho) ▸ rfl
theorem c_twin (m : Model) (h1 : m.classes.length ≤ 1000) (h2 : ∀ l ∈ m.classes, l.length ≤ 1000) (h3 : ∀ l ∈ m.classes, ∀ o ∈ l, o.charges.length ≤ 1000) (h4 : m.pairs.length ≤ 100000) (h5 : ∀ p ∈ m.pairs, p.table.length ≤ 100000) (h6 : m.counts.length ≤ 1000) (h7 : ∀ c ∈ m.counts, c.loads.length ≤ 100000) :
    ACall Tryz.prog 50 [ag m.cells] [] (fun r H' => r = .agg [slC 0 1 (clsF (shF 1) 0 m.classes), .pv (.sl 4 (m.pairs.map Pair.row)), .pv (.sl 4 (m.counts.map Count.row)), .pv (ei m.rules)] ∧ H' = obM 51 1 (clsF (shF 1) 0 m.classes) :: tailF (shF 1) 0 m.classes) := by
  obtain ⟨MC, MP, CC, MR⟩ := m
  dsimp only at h1 h2 h3 h4 h5 h6 h7 ⊢
  refine acall_of tok mixed 83 rfl (fn := Tryz.f50) (c := Tryz.f50.body.getD .skip) (by kernel_rfl) (by kernel_rfl) (by kernel_rfl) rfl 0 rfl ?_
  repeat' (first | refine o1 ?_ | refine o2 ?_ | refine k1 ?_ | refine k2 ?_ | refine k4 ?_ | refine And.intro ?_ ?_ | exact (by kernel_rfl : drawOk _ _ = true) | refine eqv_len_map ?_ | fail)
  refine loop_for (fun k : Nat => [(1, .ptr 0 4 0 0), (2, .ptr 1 4 0 0), (3, .ptr 2 4 0 0), (17, .pv (.sl 1 (MC.map optsRow))), (18, vint .i64 MC.length), (19, vint .i64 k)]) (fun k => hpO ⟨MC, MP, CC, MR⟩ (MC.take k) none) (fun k => k ≤ MC.length) (fun k => MC.length - k) 0 (Nat.zero_le _) ?_ ?_
  · refine Ghost.trans (Ghost.shut (i := 2) (c := 0) (x := nilA) (y := nilA) (y' := .clip 1 []) rfl rfl rfl True.intro (by simp [ids1, ids0, idsC, nilA]) (nil_clip 1)) ?_
    exact back [0, 1, 2, 3, 4, 5, 6, 7] rfl rfl (by repeat' (first | exact trivial | exact rfl | refine And.intro ?_ ?_)) (by repeat' (first | exact trivial | exact rfl | refine And.intro ?_ ?_))
  intro k hk
  dsimp only [hpO]
  rcases Nat.lt_or_ge k MC.length with hlt | hge
  · obtain ⟨l, hl⟩ := getE hlt
    have hll := h2 l (List.mem_of_getElem? hl)
    have hlc := h3 l (List.mem_of_getElem? hl)
    have hAl : MC.take (k + 1) = MC.take k ++ [l] := by rw [List.take_add_one, hl]; rfl
    have hAk : (MC.take k).length = k := by rw [List.length_take]; omega
    generalize MC.take k = A at *
    generalize hT : tailF (shF 8) 0 A = T at *
    generalize hR : clsF (shF 8) 0 A = R at *
    refine forceH_in ?_
    repeat' (first | refine o1 ?_ | refine o2 ?_ | refine k1 ?_ | refine k2 ?_ | refine k3 ?_ | refine k4 ?_ | refine k6 ?_ | refine And.intro ?_ ?_ | (intro h; first | exact Bool.noConfusion h | exact nz _ h | exact nl h | (simp at h; done) | (simp at h; first | (exfalso; omega) | skip) | skip) | refine eqv_len_map ?_ | refine ⟨_, _, (by first | rfl | assumption), at_map (by assumption), ?_⟩ | fail)
    refine loop_for (fun i : Nat => [(1, .ptr 0 4 0 0), (2, .ptr 1 4 0 0), (3, .ptr 2 4 0 0), (17, .pv (.sl 1 (MC.map optsRow))), (18, vint .i64 MC.length), (19, vint .i64 k), (23, .pv (.sl 6 (l.map Opt.row))), (24, vint .i64 l.length), (25, vint .i64 i), (6, slC 4 6 (rowsF (shF 8) (nT A) (l.take i)))]) (fun i => boxA ⟨MC, MP, CC, MR⟩ :: boxB :: boxM (slC 3 1 R) nilA nilA MR :: obM 51 1 R :: obM 62 6 (rowsF (shF 8) (nT A) (l.take i)) :: none :: none :: none :: (T ++ chsO (l.take i))) (fun i => i ≤ l.length) (fun i => l.length - i) 0 (Nat.zero_le _) ?_ ?_
    · refine Ghost.trans (Ghost.weak (s := 6) (x := nilA) (y := .clip 6 []) rfl (nil_clip 6)) ?_
      refine back ([0, 1, 2, 3, 4, 5, 6, 7] ++ List.range' 8 (nT A)) (rnF_allD rfl (by decide)) rfl ?_ (by repeat' (first | exact trivial | exact rfl | refine And.intro ?_ ?_))
      show kept _ _ _ (0 :: 1 :: 2 :: 3 :: 4 :: 5 :: 6 :: 7 :: List.range' 8 (nT A)) _
      refine ⟨rfl, rfl, kept_boxM rfl ?_ rfl rfl (kept_obM rfl ?_ (kept_T rfl ?_ ?_ ?_))⟩
      · rw [slC_ren, ← hR, clsF_id (F := 8) (by rfl) (Nat.le_refl _)]; rfl
      · rw [← hR, clsF_id (F := 8) (by rfl) (Nat.le_refl _)]
      · rw [List.length_append, ← hT, tailF_len]; rfl
      · rw [List.map_append, ← hT, tailF_id (F := 8) (by rfl) (Nat.le_refl _)]; rfl
      · intro q o ho
        exact (congrArg (·[q]?) (List.append_nil T)).symm.trans ho
    intro i hi
    rcases Nat.lt_or_ge i l.length with hlt2 | hge2
    · obtain ⟨o, ho⟩ := getE hlt2
      have hoc := hlc o (List.mem_of_getElem? ho)
      have hfT : ∀ k m, k + m ≤ 8 → farH k m 8 (T ++ chsO (l.take i)) := fun k m h => by
        rw [← hT]
        exact farH_app (tailF_far (fun q => by show k + m ≤ q + 8; omega) h) (chsO_far (by omega))
      have hfR : ∀ k m, k + m ≤ 8 → ∀ r ∈ R, farL k m r = true := fun k m h => by
        rw [← hR]
        exact clsF_far (fun q => by show k + m ≤ q + 8; omega)
      have hfO : ∀ k m, k + m ≤ 8 → ∀ r ∈ rowsF (shF 8) (nT A) (l.take i), farL k m r = true := fun k m h => rowsF_far (fun q => by show k + m ≤ q + 8; omega)
      have hro : (rowsF (shF 8) (nT A) (l.take i)).length = i := by rw [rowsF_len, List.length_take]; omega
      have hf5 : farH 5 1 0 (boxA ⟨MC, MP, CC, MR⟩ :: boxB :: boxM (slC 3 1 R) nilA nilA MR :: obM 51 1 R :: obM 62 6 (rowsF (shF 8) (nT A) (l.take i)) :: none :: none :: none :: (T ++ chsO (l.take i))) := by
        refine ⟨.inl (by decide), rfl, .inl (by decide), rfl, .inl (by decide), ?_, farH_obM (.inl (by decide)) (hfR 5 1 (by decide)) (farH_obM (.inl (by decide)) (hfO 5 1 (by decide)) (hfT 5 1 (by decide)))⟩
        simp [farR, farL, far, nilA, far_slC]
      have hf6 : farH 6 2 0 (boxA ⟨MC, MP, CC, MR⟩ :: boxB :: boxM (slC 3 1 R) nilA nilA MR :: obM 51 1 R :: obM 62 6 (rowsF (shF 8) (nT A) (l.take i)) :: some ⟨62, 6, false, .box (pvs o.row)⟩ :: none :: none :: (T ++ chsO (l.take i))) := by
        refine ⟨.inl (by decide), rfl, .inl (by decide), rfl, .inl (by decide), ?_, farH_obM (.inl (by decide)) (hfR 6 2 (by decide)) (farH_obM (.inl (by decide)) (hfO 6 2 (by decide)) ⟨.inl (by decide), rfl, hfT 6 2 (by decide)⟩)⟩
        simp [farR, farL, far, nilA, far_slC]
      generalize hRO : rowsF (shF 8) (nT A) (l.take i) = RO at *
      generalize hTT : T ++ chsO (l.take i) = TT at *
      have hb : (RO.length + 1) * 64 ≤ 140737488355328 := by omega
      have hn : RO.length + 1 ≤ 9223372036854775807 := by omega
      have hcl := c_cloneQ o.charges (Nat.le_trans hoc (by decide))
      obtain ⟨pl, cs⟩ := o
      rcases cs with _ | ⟨c0, C0⟩
      · refine forceH_in ?_
        repeat' (first | (refine fv_slC ?_) | (refine fh_obM ?_) | ((show xCode _ _ _ _ (.seq (.block 3 _) _) _ _ _; refine join_S ([(1, .ptr 0 4 0 0), (2, .ptr 1 4 0 0), (3, .ptr 2 4 0 0), (17, .pv (.sl 1 (MC.map optsRow))), (18, vint .i64 MC.length), (19, vint .i64 k), (23, .pv (.sl 6 (l.map Opt.row))), (24, vint .i64 l.length), (25, vint .i64 i)] ++ [(6, slC 4 6 (rowsF (shF 8) (nT A) (l.take (i + 1))))]) (boxA ⟨MC, MP, CC, MR⟩ :: boxB :: boxM (slC 3 1 R) nilA nilA MR :: obM 51 1 R :: obM 62 6 (rowsF (shF 8) (nT A) (l.take (i + 1))) :: none :: none :: none :: (tailF (shF 8) 0 A ++ chsO (l.take (i + 1)))) ?_ ?_)) | ((show Ghost _ _ _ _ _ _; refine stop_at ?_)) | ((show xCode _ _ _ _ (.region 8 _ _) _ _ _; refine code_region_at (k := 5) (GhostF.room (Nat.zero_le _) (Nat.le_of_ble_eq_true rfl) (fun _ _ h => h) (show farS 5 1 _ = true by simp [farS, farL, far, far_slC, vint, vbool]) hf5) ?_)) | ((change forceH TT _; refine forceH_in ?_)) | ((show xCode _ _ _ _ (.region 9 _ _) _ _ _; refine code_region_atA (k := 6) (GhostF.room (Nat.zero_le _) (Nat.le_of_ble_eq_true rfl) (fun _ _ h => h) (show farS 6 2 _ = true by simp [farS, farL, far, far_slC, vint, vbool]) hf6) ?_)) | ((change vcFun _ _ _ _ _; refine call_clone [.pv (.sl 2 (([] : List Charge).map Charge.row))] (N := TT.length + 8) rfl rfl hcl ?_)) | ((change forceH (TT ++ _) _; refine forceH_in ?_)) | ((refine any_one (j := 8) (rem0 := [9]) (rem1 := [9]) rfl rfl rfl rfl rfl rfl rfl ?_; refine st_appC (rows := RO) (id := 4) (idx := 6) rfl rfl rfl rfl rfl rfl rfl hb hn ?_)) | refine o1 ?_ | refine o2 ?_ | refine k1 ?_ | refine k2 ?_ | refine k3 ?_ | refine k4 ?_ | refine k6 ?_ | refine And.intro ?_ ?_ | exact trivial | refine o5 ?_ | refine o6 ?_ | (intro h; first | exact Bool.noConfusion h | exact nz _ h | exact nl h | (simp at h; done) | (simp at h; first | (exfalso; omega) | skip) | skip) | exact (by kernel_rfl : drawOk _ _ = true) | refine eqv_wrap (by omega) (by omega) ?_ | refine ⟨_, _, (by first | rfl | assumption), at_map (by assumption), ?_⟩ | fail)
        all_goals first
          | (refine Later.mk ?_
             refine back_opts (o := ⟨pl, []⟩) (m := ⟨MC, MP, CC, MR⟩) hR ho hRO (by rw [hT]; exact hTT) ?_ (fun q x h => h) rfl (fun d rest => ?_)
             · rfl
             · repeat' (first | exact trivial | exact rfl | refine And.intro ?_ ?_))
          | (refine ⟨i + 1, hlt2, by omega, ?_⟩
             subst hT
             exact back_same (by repeat (first | exact keep_nil | refine keep_cons rfl ?_)))
      · refine forceH_in ?_
        repeat' (first | (refine fv_slC ?_) | (refine fh_obM ?_) | ((show xCode _ _ _ _ (.seq (.block 3 _) _) _ _ _; refine join_S ([(1, .ptr 0 4 0 0), (2, .ptr 1 4 0 0), (3, .ptr 2 4 0 0), (17, .pv (.sl 1 (MC.map optsRow))), (18, vint .i64 MC.length), (19, vint .i64 k), (23, .pv (.sl 6 (l.map Opt.row))), (24, vint .i64 l.length), (25, vint .i64 i)] ++ [(6, slC 4 6 (rowsF (shF 8) (nT A) (l.take (i + 1))))]) (boxA ⟨MC, MP, CC, MR⟩ :: boxB :: boxM (slC 3 1 R) nilA nilA MR :: obM 51 1 R :: obM 62 6 (rowsF (shF 8) (nT A) (l.take (i + 1))) :: none :: none :: none :: (tailF (shF 8) 0 A ++ chsO (l.take (i + 1)))) ?_ ?_)) | ((show Ghost _ _ _ _ _ _; refine stop_at ?_)) | ((show xCode _ _ _ _ (.region 8 _ _) _ _ _; refine code_region_at (k := 5) (GhostF.room (Nat.zero_le _) (Nat.le_of_ble_eq_true rfl) (fun _ _ h => h) (show farS 5 1 _ = true by simp [farS, farL, far, far_slC, vint, vbool]) hf5) ?_)) | ((change forceH TT _; refine forceH_in ?_)) | ((show xCode _ _ _ _ (.region 9 _ _) _ _ _; refine code_region_atA (k := 6) (GhostF.room (Nat.zero_le _) (Nat.le_of_ble_eq_true rfl) (fun _ _ h => h) (show farS 6 2 _ = true by simp [farS, farL, far, far_slC, vint, vbool]) hf6) ?_)) | ((change vcFun _ _ _ _ _; refine call_clone [.pv (.sl 2 ((c0 :: C0).map Charge.row))] (N := TT.length + 8) rfl rfl hcl ?_)) | ((change forceH (TT ++ _) _; refine forceH_in ?_)) | ((refine any_one (j := 8) (rem0 := [9]) (rem1 := [9]) rfl rfl rfl rfl rfl rfl rfl ?_; refine st_appC (rows := RO) (id := 4) (idx := 6) rfl rfl rfl rfl rfl rfl rfl hb hn ?_)) | refine o1 ?_ | refine o2 ?_ | refine k1 ?_ | refine k2 ?_ | refine k3 ?_ | refine k4 ?_ | refine k6 ?_ | refine And.intro ?_ ?_ | exact trivial | refine o5 ?_ | refine o6 ?_ | (intro h; first | exact Bool.noConfusion h | exact nz _ h | exact nl h | (simp at h; done) | (simp at h; first | (exfalso; omega) | skip) | skip) | exact (by kernel_rfl : drawOk _ _ = true) | refine eqv_wrap (by omega) (by omega) ?_ | refine ⟨_, _, (by first | rfl | assumption), at_map (by assumption), ?_⟩ | fail)
        all_goals first
          | (refine Later.mk ?_
             refine back_opts (o := ⟨pl, c0 :: C0⟩) (m := ⟨MC, MP, CC, MR⟩) hR ho hRO (by rw [hT]; exact hTT) ?_ (fun q x h => h) rfl (fun d rest => ?_)
             · rfl
             · repeat' (first | exact trivial | exact rfl | refine And.intro ?_ ?_))
          | (refine ⟨i + 1, hlt2, by omega, ?_⟩
             subst hT
             exact back_same (by repeat (first | exact keep_nil | refine keep_cons rfl ?_)))
    · obtain rfl : i = l.length := by omega
      have hlt' : l.take l.length = l := List.take_length
      rw [hlt'] at *
      have hfT : ∀ k m, k + m ≤ 8 → farH k m 8 (T ++ chsO l) := fun k m h => by
        rw [← hT]
        exact farH_app (tailF_far (fun q => by show k + m ≤ q + 8; omega) h) (chsO_far (by omega))
      have hfR : ∀ k m, k + m ≤ 8 → ∀ r ∈ R, farL k m r = true := fun k m h => by
        rw [← hR]
        exact clsF_far (fun q => by show k + m ≤ q + 8; omega)
      have hfO : ∀ k m, k + m ≤ 8 → ∀ r ∈ rowsF (shF 8) (nT A) l, farL k m r = true := fun k m h => rowsF_far (fun q => by show k + m ≤ q + 8; omega)
      have hro : (rowsF (shF 8) (nT A) l).length = l.length := rowsF_len
      have hRl : R.length = k := by rw [← hR, clsF_len, hAk]
      have hf5 : farH 5 2 0 (boxA ⟨MC, MP, CC, MR⟩ :: boxB :: boxM (slC 3 1 R) nilA nilA MR :: obM 51 1 R :: obM 62 6 (rowsF (shF 8) (nT A) l) :: none :: none :: none :: (T ++ chsO l)) := by
        refine ⟨.inl (by decide), rfl, .inl (by decide), rfl, .inl (by decide), ?_, farH_obM (.inl (by decide)) (hfR 5 2 (by decide)) (farH_obM (.inl (by decide)) (hfO 5 2 (by decide)) (hfT 5 2 (by decide)))⟩
        simp [farR, farL, far, nilA, far_slC]
      have hbk := fun (Γ' : Slots) (x5 x7 : Option AObj) (G0 : Slots) => back_class (n := 83) (m := ⟨MC, MP, CC, MR⟩) (l := l) (x5 := x5) (x7 := x7) (Γ' := Γ') (G0 := G0) hR
      rw [← hAl, hT] at hbk
      generalize hRO : rowsF (shF 8) (nT A) l = RO at *
      generalize hTT : T ++ chsO l = TT at *
      have hb : (R.length + 1) * 24 ≤ 140737488355328 := by omega
      have hn : R.length + 1 ≤ 9223372036854775807 := by omega
      refine forceH_in ?_
      rcases RO with _ | ⟨r0, RO⟩
      all_goals
        repeat' (first | (refine fv_slC ?_) | (refine fh_obM ?_) | ((show xCode _ _ _ _ (.region 11 _ _) _ _ _; refine code_region_at (k := 5) (GhostF.room (Nat.zero_le _) (Nat.le_of_ble_eq_true rfl) (fun _ _ h => h) (show farS 5 2 _ = true by simp [farS, farL, far, far_slC, vint, vbool, slC]) hf5) ?_)) | ((change forceH TT _; refine forceH_in ?_)) | ((refine o_appC (rows := R) (id := 3) (idx := 5) rfl rfl rfl rfl rfl rfl rfl rfl rfl rfl rfl hb hn ?_)) | refine o1 ?_ | refine o2 ?_ | refine k1 ?_ | refine k2 ?_ | refine k3 ?_ | refine k8 ?_ | refine And.intro ?_ ?_ | (intro h; first | exact Bool.noConfusion h | exact nz _ h | exact nl h | (simp at h; done) | (simp at h; first | (exfalso; omega) | skip) | skip) | refine eqv_wrap (by omega) (by omega) ?_ | fail)
        refine ⟨k + 1, hlt, by omega, ?_⟩
        refine hbk _ _ _ _ (fun d rest => ?_)
        repeat' (first | exact trivial | exact rfl | refine And.intro ?_ ?_)
  · obtain rfl : k = MC.length := by omega
    have hlt' : MC.take MC.length = MC := List.take_length
    rw [hlt'] at *
    have hidT : ∀ d (fx : List Nat), fx.length = 8 → (tailF (shF 8) 0 MC).map (renOpt d (fx ++ List.range' 8 (nT MC))) = tailF (shF 8) 0 MC := fun d fx h => tailF_id h (Nat.le_refl _)
    have hidR : ∀ d (fx : List Nat), fx.length = 8 → (clsF (shF 8) 0 MC).map (renL d (fx ++ List.range' 8 (nT MC))) = clsF (shF 8) 0 MC := fun d fx h => clsF_id h (Nat.le_refl _)
    have hTl : (tailF (shF 8) 0 MC).length = nT MC := tailF_len
    have hfT : ∀ k m, k + m ≤ 8 → farH k m 8 (tailF (shF 8) 0 MC) := fun k m h => tailF_far (fun q => by show k + m ≤ q + 8; omega) h
    have hfR : ∀ k m, k + m ≤ 8 → ∀ r ∈ clsF (shF 8) 0 MC, farL k m r = true := fun k m h => clsF_far (fun q => by show k + m ≤ q + 8; omega)
    generalize hT : tailF (shF 8) 0 MC = T at *
    generalize hR : clsF (shF 8) 0 MC = R at *
    refine forceH_in ?_
    repeat' (first | refine o1 ?_ | refine o2 ?_ | refine k1 ?_ | refine k2 ?_ | refine k3 ?_ | refine k4 ?_ | refine k8 ?_ | refine And.intro ?_ ?_ | (intro h; first | exact Bool.noConfusion h | exact nz _ h | exact nl h | (simp at h; done) | (simp at h; first | (exfalso; omega) | skip) | skip) | refine eqv_len_map ?_ | fail)
    refine loop_for (fun k : Nat => [(1, .ptr 0 4 0 0), (2, .ptr 1 4 0 0), (3, .ptr 2 4 0 0), (47, .pv (.sl 4 (MP.map Pair.row))), (48, vint .i64 MP.length), (49, vint .i64 k)]) (fun k => boxA ⟨MC, MP, CC, MR⟩ :: boxB :: boxM (slC 3 1 R) (slP 4 4 ((MP.take k).map Pair.row)) nilA MR :: obM 51 1 R :: obP 72 4 ((MP.take k).map Pair.row) :: none :: none :: none :: T) (fun k => k ≤ MP.length) (fun k => MP.length - k) 0 (Nat.zero_le _) ?_ ?_
    · refine back ([0, 1, 2, 3, 4, 5, 6, 7] ++ List.range' 8 (nT MC)) (rnF_allD rfl (by decide)) rfl ?_ (by repeat' (first | exact trivial | exact rfl | refine And.intro ?_ ?_))
      show kept _ _ _ (0 :: 1 :: 2 :: 3 :: 4 :: 5 :: 6 :: 7 :: List.range' 8 (nT MC)) _
      refine ⟨rfl, rfl, kept_boxM rfl ?_ rfl rfl (kept_obM rfl (hidR _ _ rfl) (kept_T rfl hTl (hidT _ _ rfl) fun q o ho => ho))⟩
      rw [slC_ren, hidR _ _ rfl]; rfl
    intro k hk
    rcases Nat.lt_or_ge k MP.length with hlt | hge
    · obtain ⟨p, hp⟩ := getE hlt
      have hpt := c_cloneIP p.table (h5 p (List.mem_of_getElem? hp))
      have hto : MP.take (k + 1) = MP.take k ++ [p] := by rw [List.take_add_one, hp]; rfl
      have hro : ((MP.take k).map Pair.row).length = k := by rw [List.length_map, List.length_take]; omega
      have hf5 : farH 5 1 0 (boxA ⟨MC, MP, CC, MR⟩ :: boxB :: boxM (slC 3 1 R) (slP 4 4 ((MP.take k).map Pair.row)) nilA MR :: obM 51 1 R :: obP 72 4 ((MP.take k).map Pair.row) :: none :: none :: none :: T) := by
        refine ⟨.inl (by decide), rfl, .inl (by decide), rfl, .inl (by decide), ?_, farH_obM (.inl (by decide)) (hfR 5 1 (by decide)) (farH_obP (.inl (by decide)) (hfT 5 1 (by decide)))⟩
        simp [farR, farL, far, nilA, far_slC, far_slP]
      have hf6 : ∀ b, farH 6 2 0 (boxA ⟨MC, MP, CC, MR⟩ :: boxB :: boxM (slC 3 1 R) (slP 4 4 ((MP.take k).map Pair.row)) nilA MR :: obM 51 1 R :: obP 72 4 ((MP.take k).map Pair.row) :: some ⟨72, 4, false, .box (pvs b)⟩ :: none :: none :: T) := fun b => by
        refine ⟨.inl (by decide), rfl, .inl (by decide), rfl, .inl (by decide), ?_, farH_obM (.inl (by decide)) (hfR 6 2 (by decide)) (farH_obP (.inl (by decide)) ⟨.inl (by decide), farL_pvs, hfT 6 2 (by decide)⟩)⟩
        simp [farR, farL, far, nilA, far_slC, far_slP]
      generalize hRO : (MP.take k).map Pair.row = RO at *
      have hb : (RO.length + 1) * 48 ≤ 140737488355328 := by omega
      have hn : RO.length + 1 ≤ 9223372036854775807 := by omega
      refine forceH_in ?_
      repeat' (first | (refine fh_obM ?_) | (refine fv_sl ?_) | (refine fh_ob ?_) | ((change forceH T _; refine forceH_in ?_)) | ((show xCode _ _ _ _ (.region 15 _ _) _ _ _; refine code_region_at (k := 5) (GhostF.room (Nat.zero_le _) (Nat.le_of_ble_eq_true rfl) (fun _ _ h => h) (show farS 5 1 _ = true by simp [farS, farL, far, vint, vbool]) hf5) ?_)) | ((show xCode _ _ _ _ (.region 17 _ _) _ _ _; refine code_region_at (k := 6) (GhostF.room (Nat.zero_le _) (Nat.le_of_ble_eq_true rfl) (fun _ _ h => h) (show farS 6 2 _ = true by simp [farS, farL, far, vint, vbool]) (hf6 p.row)) ?_)) | ((change vcFun _ _ _ _ _; refine call_frz rfl (by repeat' (first | trivial | refine And.intro ?_ ?_ | (show 0 + _ ≤ List.length _; simp))) ALeL.refl hpt ?_; rintro _ rfl)) | ((refine o_app (rows := RO) (id := 4) (idx := 6) rfl rfl rfl rfl rfl rfl rfl rfl rfl rfl rfl hb hn ?_)) | refine o1 ?_ | refine o2 ?_ | refine k1 ?_ | refine k2 ?_ | refine k3 ?_ | refine k4 ?_ | refine k6 ?_ | refine And.intro ?_ ?_ | (intro h; first | exact Bool.noConfusion h | exact nz _ h | exact nl h | (simp at h; done) | (simp at h; first | (exfalso; omega) | skip) | skip) | exact (by kernel_rfl : drawOk _ _ = true) | refine eqv_wrap (by omega) (by omega) ?_ | refine ⟨_, _, (by first | rfl | assumption), at_map (by assumption), ?_⟩ | fail)
      refine ⟨k + 1, hlt, by omega, ?_⟩
      rw [hto, map_snoc, hRO]
      refine back ([0, 1, 2, 3, 7, 5, 6, 4] ++ List.range' 8 (nT MC)) (rnF_allD rfl (by decide)) rfl ?_ (by repeat' (first | exact trivial | exact rfl | refine And.intro ?_ ?_))
      show kept _ _ _ (0 :: 1 :: 2 :: 3 :: 7 :: 5 :: 6 :: 4 :: List.range' 8 (nT MC)) _
      refine ⟨rfl, rfl, kept_boxM rfl ?_ ?_ ?_ (kept_obM rfl (hidR _ _ rfl) (kept_ob ?_ (kept_T rfl hTl (hidT _ _ rfl) fun q o ho => ho)))⟩
      · rw [slC_ren, hidR _ _ rfl]; rfl
      · rw [ren_sl, sl_app]; rfl
      · rfl
      · rw [ob_app]; rfl
    · obtain rfl : k = MP.length := by omega
      have hlt' : MP.take MP.length = MP := List.take_length
      rw [hlt']
      generalize hRO : MP.map Pair.row = RO at *
      refine forceH_in ?_
      repeat' (first | refine o1 ?_ | refine o2 ?_ | refine k1 ?_ | refine k2 ?_ | refine k3 ?_ | refine k4 ?_ | refine k8 ?_ | refine And.intro ?_ ?_ | (intro h; first | exact Bool.noConfusion h | exact nz _ h | exact nl h | (simp at h; done) | (simp at h; first | (exfalso; omega) | skip) | skip) | refine eqv_len_map ?_ | fail)
      refine loop_for (fun k : Nat => [(1, .ptr 0 4 0 0), (2, .ptr 1 4 0 0), (3, .ptr 2 4 0 0), (65, .pv (.sl 4 (CC.map Count.row))), (66, vint .i64 CC.length), (67, vint .i64 k)]) (fun k => boxA ⟨MC, MP, CC, MR⟩ :: boxB :: boxM (slC 3 1 R) (.pv (.sl 4 RO)) (slP 4 4 ((CC.take k).map Count.row)) MR :: obM 51 1 R :: obP 78 4 ((CC.take k).map Count.row) :: none :: none :: none :: T) (fun k => k ≤ CC.length) (fun k => CC.length - k) 0 (Nat.zero_le _) ?_ ?_
      · refine Ghost.shut_sl (i := 2) (c := 1) (id := 4) (rows := RO) rfl rfl rfl (by decide) fun H' hl h2 hk => ?_
        have hh : ∀ j : Nat, j ≠ 4 → j ≠ 2 → H'[j]? = _ := hk
        refine back ([0, 1, 2, 3, 4, 5, 6, 7] ++ List.range' 8 (nT MC)) (rnF_allD rfl (by decide)) rfl ?_ (by repeat' (first | exact trivial | exact rfl | refine And.intro ?_ ?_))
        show kept _ _ _ (0 :: 1 :: 2 :: 3 :: 4 :: 5 :: 6 :: 7 :: List.range' 8 (nT MC)) _
        refine ⟨(hk 0 (by decide) (by decide)).trans rfl, (hk 1 (by decide) (by decide)).trans rfl, kept_boxM (h2.trans rfl) ?_ rfl rfl (kept_obM ((hk 3 (by decide) (by decide)).trans rfl) (hidR _ _ rfl) (kept_T rfl hTl (hidT _ _ rfl) fun q o ho => (hk _ (by omega) (by omega)).trans ho))⟩
        rw [slC_ren, hidR _ _ rfl]; rfl
      intro k hk
      rcases Nat.lt_or_ge k CC.length with hlt | hge
      · obtain ⟨p, hp⟩ := getE hlt
        have hpt := c_cloneLP p.loads (h7 p (List.mem_of_getElem? hp))
        have hto : CC.take (k + 1) = CC.take k ++ [p] := by rw [List.take_add_one, hp]; rfl
        have hro : ((CC.take k).map Count.row).length = k := by rw [List.length_map, List.length_take]; omega
        have hf5 : farH 5 1 0 (boxA ⟨MC, MP, CC, MR⟩ :: boxB :: boxM (slC 3 1 R) (.pv (.sl 4 RO)) (slP 4 4 ((CC.take k).map Count.row)) MR :: obM 51 1 R :: obP 78 4 ((CC.take k).map Count.row) :: none :: none :: none :: T) := by
          refine ⟨.inl (by decide), rfl, .inl (by decide), rfl, .inl (by decide), ?_, farH_obM (.inl (by decide)) (hfR 5 1 (by decide)) (farH_obP (.inl (by decide)) (hfT 5 1 (by decide)))⟩
          simp [farR, farL, far, nilA, far_slC, far_slP]
        have hf6 : ∀ b, farH 6 2 0 (boxA ⟨MC, MP, CC, MR⟩ :: boxB :: boxM (slC 3 1 R) (.pv (.sl 4 RO)) (slP 4 4 ((CC.take k).map Count.row)) MR :: obM 51 1 R :: obP 78 4 ((CC.take k).map Count.row) :: some ⟨78, 4, false, .box (pvs b)⟩ :: none :: none :: T) := fun b => by
          refine ⟨.inl (by decide), rfl, .inl (by decide), rfl, .inl (by decide), ?_, farH_obM (.inl (by decide)) (hfR 6 2 (by decide)) (farH_obP (.inl (by decide)) ⟨.inl (by decide), farL_pvs, hfT 6 2 (by decide)⟩)⟩
          simp [farR, farL, far, nilA, far_slC, far_slP]
        generalize hCO : (CC.take k).map Count.row = CO at *
        have hb : (CO.length + 1) * 48 ≤ 140737488355328 := by omega
        have hn : CO.length + 1 ≤ 9223372036854775807 := by omega
        subst hRO
        refine forceH_in ?_
        repeat' (first | (refine fh_obM ?_) | (refine fv_sl ?_) | (refine fh_ob ?_) | ((change forceH T _; refine forceH_in ?_)) | ((show xCode _ _ _ _ (.region 21 _ _) _ _ _; refine code_region_at (k := 5) (GhostF.room (Nat.zero_le _) (Nat.le_of_ble_eq_true rfl) (fun _ _ h => h) (show farS 5 1 _ = true by simp [farS, farL, far, vint, vbool]) hf5) ?_)) | ((show xCode _ _ _ _ (.region 23 _ _) _ _ _; refine code_region_at (k := 6) (GhostF.room (Nat.zero_le _) (Nat.le_of_ble_eq_true rfl) (fun _ _ h => h) (show farS 6 2 _ = true by simp [farS, farL, far, vint, vbool]) (hf6 p.row)) ?_)) | ((change vcFun _ _ _ _ _; refine call_frz rfl (by repeat' (first | trivial | refine And.intro ?_ ?_ | (show 0 + _ ≤ List.length _; simp))) ALeL.refl hpt ?_; rintro _ rfl)) | ((refine o_app (rows := CO) (id := 4) (idx := 6) rfl rfl rfl rfl rfl rfl rfl rfl rfl rfl rfl hb hn ?_)) | refine o1 ?_ | refine o2 ?_ | refine k1 ?_ | refine k2 ?_ | refine k3 ?_ | refine k4 ?_ | refine k6 ?_ | refine And.intro ?_ ?_ | (intro h; first | exact Bool.noConfusion h | exact nz _ h | exact nl h | (simp at h; done) | (simp at h; first | (exfalso; omega) | skip) | skip) | exact (by kernel_rfl : drawOk _ _ = true) | refine eqv_wrap (by omega) (by omega) ?_ | refine ⟨_, _, (by first | rfl | assumption), at_map (by assumption), ?_⟩ | fail)
        refine ⟨k + 1, hlt, by omega, ?_⟩
        rw [hto, map_snoc, hCO]
        refine back ([0, 1, 2, 3, 7, 5, 6, 4] ++ List.range' 8 (nT MC)) (rnF_allD rfl (by decide)) rfl ?_ (by repeat' (first | exact trivial | exact rfl | refine And.intro ?_ ?_))
        show kept _ _ _ (0 :: 1 :: 2 :: 3 :: 7 :: 5 :: 6 :: 4 :: List.range' 8 (nT MC)) _
        refine ⟨rfl, rfl, kept_boxM rfl ?_ ?_ ?_ (kept_obM rfl (hidR _ _ rfl) (kept_ob ?_ (kept_T rfl hTl (hidT _ _ rfl) fun q o ho => ho)))⟩
        · rw [slC_ren, hidR _ _ rfl]; rfl
        · rfl
        · rw [ren_sl, sl_app]; rfl
        · rw [ob_app]; rfl
      · obtain rfl : k = CC.length := by omega
        have hlt' : CC.take CC.length = CC := List.take_length
        rw [hlt']
        generalize hCO : CC.map Count.row = CO at *
        refine forceH_in ?_
        repeat' (first | ((show xCode _ _ _ _ (.seq (.region 25 _ _) _) _ _ _; refine stop_at ?_)) | refine o1 ?_ | refine o2 ?_ | refine k1 ?_ | refine k2 ?_ | refine k3 ?_ | refine k8 ?_ | refine And.intro ?_ ?_ | (intro h; first | exact Bool.noConfusion h | exact nz _ h | exact nl h | (simp at h; done) | (simp at h; first | (exfalso; omega) | skip) | skip) | fail)
        refine ⟨?_⟩
        refine ghost_seq (Γ' := [(2, .ptr 1 4 0 0), (3, .ptr 2 4 0 0)]) (H' := boxA ⟨MC, MP, CC, MR⟩ :: boxB :: boxM (slC 3 1 R) (.pv (.sl 4 RO)) (.pv (.sl 4 CO)) MR :: obM 51 1 R :: none :: none :: none :: none :: T) ?_ ?_
        · refine Ghost.shut_sl (i := 2) (c := 2) (id := 4) (rows := CO) rfl rfl rfl (by decide) fun H' hl h2 hk => ?_
          refine back ([0, 1, 2, 3, 4, 5, 6, 7] ++ List.range' 8 (nT MC)) (rnF_allD rfl (by decide)) rfl ?_ (by repeat' (first | exact trivial | exact rfl | refine And.intro ?_ ?_))
          show kept _ _ _ (0 :: 1 :: 2 :: 3 :: 4 :: 5 :: 6 :: 7 :: List.range' 8 (nT MC)) _
          refine ⟨(hk 0 (by decide) (by decide)).trans rfl, (hk 1 (by decide) (by decide)).trans rfl, kept_boxM (h2.trans rfl) ?_ rfl rfl (kept_obM ((hk 3 (by decide) (by decide)).trans rfl) (hidR _ _ rfl) (kept_T rfl hTl (hidT _ _ rfl) fun q o ho => (hk _ (by omega) (by omega)).trans ho))⟩
          rw [slC_ren, hidR _ _ rfl]; rfl
        · have fin : ∀ (x2 : Option AObj) (y : AV), y = slC 3 1 R → retOk 0 (.agg [y, .pv (.sl 4 RO), .pv (.sl 4 CO), .pv (ei MR)]) (boxA ⟨MC, MP, CC, MR⟩ :: x2 :: boxM y (.pv (.sl 4 RO)) (.pv (.sl 4 CO)) MR :: obM 51 1 R :: none :: none :: none :: none :: T) (fun r H' => r = .agg [slC 0 1 (clsF (shF 1) 0 MC), .pv (.sl 4 RO), .pv (.sl 4 CO), .pv (ei MR)] ∧ H' = obM 51 1 (clsF (shF 1) 0 MC) :: tailF (shF 1) 0 MC) := fun x2 y hy => by
            subst hy
            have hg : ∀ (d q : Nat), 0 ≤ q → q < 0 + nT MC → (3 :: List.range' 8 (nT MC)).getD (shF 1 q) d = shF 8 q := fun d q _ h => by
              show (List.range' 8 (nT MC)).getD q d = q + 8
              rw [List.getD_eq_getElem?_getD, List.getElem?_range' (by omega), Nat.one_mul, Nat.add_comm]
              rfl
            have hc : ∀ d, (clsF (shF 1) 0 MC).map (renL d (3 :: List.range' 8 (nT MC))) = R := fun d => by
              rw [clsF_ren, ← hR]
              exact clsF_congr (hg d)
            refine ret_obj (3 :: List.range' 8 (nT MC)) (obM 51 1 (clsF (shF 1) 0 MC) :: tailF (shF 1) 0 MC) ?_ rfl ?_ (r' := .agg [slC 0 1 (clsF (shF 1) 0 MC), .pv (.sl 4 RO), .pv (.sl 4 CO), .pv (ei MR)]) ?_ ⟨rfl, rfl⟩
            · exact rnF_allD (fx := [3]) rfl (by decide)
            · refine kept_obM rfl (hc _) ?_
              refine kept_map (by rw [tailF_len, List.length_range']) fun q i hq o ho => ?_
              have hq2 : q < nT MC := by
                have := (List.getElem?_eq_some_iff.1 hq).1
                rwa [List.length_range'] at this
              rw [List.getElem?_range' hq2, Nat.one_mul] at hq
              injection hq with hq
              subst hq
              rw [tailF_ren, tailF_congr (hg _), hT] at ho
              rw [show 8 + q = q + 8 from Nat.add_comm _ _]
              exact ho
            · show _ = AV.agg [renC _ _ (slC 0 1 (clsF (shF 1) 0 MC)), .pv (.sl 4 RO), .pv (.sl 4 CO), .pv (ei MR)]
              rw [slC_ren, hc]; rfl
          clear hidR hidT
          rcases R with _ | ⟨r0, R⟩
          all_goals
            repeat' (first | (refine fh_obM ?_) | ((change forceH T _; refine forceH_in ?_)) | ((change retOk _ _ _ _; exact fin _ _ rfl)) | refine o1 ?_ | refine o2 ?_ | refine k1 ?_ | refine k2 ?_ | refine k7 ?_ | fail)
end Go.Proofs.YtihpjcmloecaaaaGreat.Cw
/-
  The states of symmetry.Break, and how one is read as_ another.
-/
namespace Go.Proofs.YtihpjcmloecaaaaGreat.Cw
open Go Go.Cw Go.Proofs
set_option linter.unusedVariables false
set_option maxRecDepth 100000
set_option maxHeartbeats 8000000
theorem kept_any {H Hc : Heap} {d i : Nat} {rn l : List Nat} {x : Option AObj} (h : H[i]? = some (renOpt d rn x)) (hk : kept H d rn l Hc) : kept H d rn (i :: l) (x :: Hc) := by
  cases x with
  | none => exact hk
  | some o => exact ⟨h, hk⟩
def nCls (A B : List (List Opt)) : Nat := A.length + (B.length + 1)
def hS0 (m : Model) (P C : PV) (R : Int) (x4 x5 : Option AObj) (L : List (List Opt)) : Heap :=
  boxA m :: boxB :: boxM (slC 3 1 (clsF (shF 10) 0 L)) (.pv P) (.pv C) R :: obM 51 1 (clsF (shF 10) 0 L) :: x4 :: x5 :: none :: none :: none :: none :: tailF (shF 10) 0 L
def hS1 (m : Model) (P C : PV) (R : Int) (x4 x5 : Option AObj) (A : List (List Opt)) (l : List Opt) (B : List (List Opt)) : Heap :=
  boxA m :: boxB :: boxM (.ms 3 1 0 (nCls A B)) (.pv P) (.pv C) R :: some ⟨51, 1, false, .m (clsF (shF 10) 0 A ++ [.ms 6 6 0 l.length] :: clsF (shF 10) (nT A + l.length + 1) B)⟩ :: x4 :: x5 ::
    some ⟨62, 6, false, .m (rowsF (shF 10) (nT A) l)⟩ :: none :: none :: none :: mid A (chsO l) none B l.length
def gX (q x : Nat) : Nat → Nat := fun t => if q = t then x else shF 10 t
def hS2 (m : Model) (P C : PV) (R : Int) (x4 x5 : Option AObj) (A : List (List Opt)) (l : List Opt) (B : List (List Opt)) (i : Nat) (rows : List (List AV)) (x7 x8 x9 : Option AObj) : Heap :=
  boxA m :: boxB :: boxM (.ms 3 1 0 (nCls A B)) (.pv P) (.pv C) R :: some ⟨51, 1, false, .m (clsF (shF 10) 0 A ++ [.ms 6 6 0 l.length] :: clsF (shF 10) (nT A + l.length + 1) B)⟩ :: x4 :: x5 ::
    some ⟨62, 6, false, .m rows⟩ :: x7 :: x8 :: x9 :: mid A ((chsO l).set i none) none B l.length
def InvX (x : Option AObj) : Prop := ∀ d rest, renOpt d (0 :: 1 :: 2 :: 3 :: 4 :: 5 :: rest) x = x
section
variable {n i j : Nat} {m : Model} {P C : PV} {R : Int} {x4 x5 x7 x8 x9 : Option AObj} {A B : List (List Opt)} {l l' : List Opt} {o o' : Opt} {Γ G : Slots} {rows : List (List AV)}
theorem len_mid : nT (A ++ l :: B) = nT A + (l.length + 1 + nT B) := by rw [nT_app]; rfl
theorem cls_len : (clsF (shF 10) 0 (A ++ l :: B)).length = nCls A B := by rw [clsF_len]; simp [nCls]
theorem swap_allD {fx : List Nat} {q x N : Nat} (hfx : fx.length = 10) (h : fx.Nodup) (hx : ∀ a ∈ fx, (a < 10 ∧ a ≠ x) ∨ a = q + 10) (hx10 : x < 10) (hq : q < N) : allD (fx ++ (List.range' 10 N).set q x) = true := rnS_allD h hx hx10 hq
theorem ghost_01 (h4 : InvX x4) (h5 : InvX x5) (hl : 0 < l.length) (hG : ∀ d rest, refSlots d (0 :: 1 :: 2 :: 3 :: 4 :: 5 :: rest) Γ G) : Ghost n 0 Γ (hS0 m P C R x4 x5 (A ++ l :: B)) G (hS1 m P C R x4 x5 A l B) := by
  have hp : nT A + l.length < nT (A ++ l :: B) := by rw [len_mid]; omega
  refine back ([0, 1, 2, 3, 4, 5, nT A + l.length + 10, 7, 8, 9] ++ (List.range' 10 (nT (A ++ l :: B))).set (nT A + l.length) 6) (swap_allD rfl (by simp <;> omega) (by intro a ha; simp at ha; omega) (by decide) hp) rfl ?_ (hG _ _)
  have hg : ∀ (d t : Nat), t < nT (A ++ l :: B) → ([0, 1, 2, 3, 4, 5, nT A + l.length + 10, 7, 8, 9] ++ (List.range' 10 (nT (A ++ l :: B))).set (nT A + l.length) 6).getD (t + 10) d = if nT A + l.length = t then 6 else t + 10 := fun d t ht => rnS_get rfl ht
  have hf : ∀ d, FixA ([0, 1, 2, 3, 4, 5, nT A + l.length + 10, 7, 8, 9] ++ (List.range' 10 (nT (A ++ l :: B))).set (nT A + l.length) 6) d A l B := fun d => fixA_swap rfl (by omega) (Nat.le_refl _)
  have hr : (clsF (shF 10) 0 (A ++ l :: B)) = clsF (shF 10) 0 A ++ [.ms (nT A + l.length + 10) 6 0 l.length] :: clsF (shF 10) (nT A + l.length + 1) B := by
    rw [cls_mid]
    cases l with
    | nil => simp at hl
    | cons a t => rfl
  show kept _ _ _ (0 :: 1 :: 2 :: 3 :: 4 :: 5 :: (nT A + l.length + 10) :: 7 :: 8 :: 9 :: (List.range' 10 (nT (A ++ l :: B))).set (nT A + l.length) 6) _
  refine ⟨rfl, rfl, kept_boxM (x' := .ms 3 1 0 (nCls A B)) ?_ rfl rfl rfl ⟨?_, kept_any ?_ (kept_any ?_ ⟨?_, ?_⟩)⟩⟩
  · show some (boxM (slC 3 1 (clsF (shF 10) 0 (A ++ l :: B))) _ _ _) = _
    rw [slC_pos (by rw [cls_len]; unfold nCls; omega), cls_len]; rfl
  · show some (obM _ 1 (clsF (shF 10) 0 (A ++ l :: B))) = _
    rw [obM_pos (by rw [cls_len]; unfold nCls; omega), hr]
    simp only [renO, renRows]
    rw [cls_inv (hf _)]
    rfl
  · show some x4 = _
    exact congrArg some (h4 _ _).symm
  · show some x5 = _
    exact congrArg some (h5 _ _).symm
  · show (tailF (shF 10) 0 (A ++ l :: B))[nT A + l.length]? = _
    rw [opt_at]
    unfold optO
    rw [obM_pos (by rw [rowsF_len]; exact hl)]
    simp only [renO, renRows]
    rw [rowsF_ren]
    congr 4
    exact (rowsF_congr fun q h1 h2 => (hg _ q (by omega)).trans (if_neg (by omega))).symm
  · show kept _ _ _ ((List.range' 10 (nT (A ++ l :: B))).set (nT A + l.length) 6) (mid A (chsO l) none B l.length)
    rw [← mid_setP (y := optO (shF 10) (nT A) l) chsO_len]
    refine kept_swap (mid_len chsO_len) hp ?_ (fun t o _ ho => ?_) (.inl rfl)
    · rw [mid_setP chsO_len]; exact mid_inv (hf _) chsO_ren rfl
    · rw [← mid_of] at ho; exact ho
theorem ghost_10 (hl : 0 < l.length) (hG : ∀ d rest, refSlots d (0 :: 1 :: 2 :: 3 :: 4 :: 5 :: rest) Γ G) : Ghost n 0 Γ (hS1 m P C R x4 x5 A l B) G (hS0 m P C R none none (A ++ l :: B)) := by
  have hp : nT A + l.length < nT (A ++ l :: B) := by rw [len_mid]; omega
  refine back ([0, 1, 2, 3, 4, 5, nT A + l.length + 10, 7, 8, 9] ++ (List.range' 10 (nT (A ++ l :: B))).set (nT A + l.length) 6) (swap_allD rfl (by simp <;> omega) (by intro a ha; simp at ha; omega) (by decide) hp) rfl ?_ (hG _ _)
  have hg : ∀ (d t : Nat), t < nT (A ++ l :: B) → ([0, 1, 2, 3, 4, 5, nT A + l.length + 10, 7, 8, 9] ++ (List.range' 10 (nT (A ++ l :: B))).set (nT A + l.length) 6).getD (t + 10) d = if nT A + l.length = t then 6 else t + 10 := fun d t ht => rnS_get rfl ht
  have hf : ∀ d, FixA ([0, 1, 2, 3, 4, 5, nT A + l.length + 10, 7, 8, 9] ++ (List.range' 10 (nT (A ++ l :: B))).set (nT A + l.length) 6) d A l B := fun d => fixA_swap rfl (by omega) (Nat.le_refl _)
  have hr : (clsF (shF 10) 0 (A ++ l :: B)) = clsF (shF 10) 0 A ++ [.ms (nT A + l.length + 10) 6 0 l.length] :: clsF (shF 10) (nT A + l.length + 1) B := by
    rw [cls_mid]
    cases l with
    | nil => simp at hl
    | cons a t => rfl
  have hri : ∀ d, (clsF (shF 10) 0 (A ++ l :: B)).map (renL d ([0, 1, 2, 3, 4, 5, nT A + l.length + 10, 7, 8, 9] ++ (List.range' 10 (nT (A ++ l :: B))).set (nT A + l.length) 6)) = clsF (shF 10) 0 A ++ [.ms 6 6 0 l.length] :: clsF (shF 10) (nT A + l.length + 1) B := fun d => by
    rw [hr, cls_inv (hf _)]
    congr 2
    show [AV.ms _ 6 0 l.length] = _
    rw [hg _ _ hp, if_pos rfl]
  show kept _ _ _ (0 :: 1 :: 2 :: 3 :: 4 :: 5 :: (nT A + l.length + 10) :: 7 :: 8 :: 9 :: (List.range' 10 (nT (A ++ l :: B))).set (nT A + l.length) 6) _
  refine ⟨rfl, rfl, kept_boxM rfl ?_ rfl rfl (kept_obM (rows' := clsF (shF 10) 0 A ++ [.ms 6 6 0 l.length] :: clsF (shF 10) (nT A + l.length + 1) B) ?_ (hri _) ?_)⟩
  · rw [slC_ren, hri, slC_pos (by simp; omega)]
    simp [clsF_len, nCls]
  · rw [obM_pos (by simp; omega)]; rfl
  · show kept _ _ _ ((List.range' 10 (nT (A ++ l :: B))).set (nT A + l.length) 6) (tailF (shF 10) 0 (A ++ l :: B))
    rw [mid_of, ← mid_setP (y := none) chsO_len]
    refine kept_swap (mid_len chsO_len) hp ?_ (fun t o _ ho => ho) (.inr ?_)
    · rw [mid_setP chsO_len]; exact mid_inv (hf _) chsO_ren (optO_inv fun t h1 h2 => by rw [hg _ t (by omega), if_neg (by omega)])
    · show some (some _) = _
      unfold optO
      rw [obM_pos (by rw [rowsF_len]; exact hl)]
theorem ghost_12 (h4 : InvX x4) (h5 : InvX x5) (ho : l[i]? = some o) (hG : ∀ d rest, refSlots d (0 :: 1 :: 2 :: 3 :: 4 :: 5 :: 6 :: rest) Γ G) :
    Ghost n 0 Γ (hS1 m P C R x4 x5 A l B) G (hS2 m P C R x4 x5 A l B i (rowsF (gX (nT A + i) 7) (nT A) l) (chO o.charges) none none) := by
  have hi := (List.getElem?_eq_some_iff.1 ho).1
  have hp : nT A + i < nT (A ++ l :: B) := by rw [len_mid]; omega
  refine back ([0, 1, 2, 3, 4, 5, 6, nT A + i + 10, 8, 9] ++ (List.range' 10 (nT (A ++ l :: B))).set (nT A + i) 7) (swap_allD rfl (by simp <;> omega) (by intro a ha; simp at ha; omega) (by decide) hp) rfl ?_ (hG _ _)
  have hg : ∀ (d t : Nat), t < nT (A ++ l :: B) → ([0, 1, 2, 3, 4, 5, 6, nT A + i + 10, 8, 9] ++ (List.range' 10 (nT (A ++ l :: B))).set (nT A + i) 7).getD (t + 10) d = if nT A + i = t then 7 else t + 10 := fun d t ht => rnS_get rfl ht
  have hf : ∀ d, FixA ([0, 1, 2, 3, 4, 5, 6, nT A + i + 10, 8, 9] ++ (List.range' 10 (nT (A ++ l :: B))).set (nT A + i) 7) d A l B := fun d => fixA_swap rfl (by omega) (by omega)
  show kept _ _ _ (0 :: 1 :: 2 :: 3 :: 4 :: 5 :: 6 :: (nT A + i + 10) :: 8 :: 9 :: (List.range' 10 (nT (A ++ l :: B))).set (nT A + i) 7) _
  refine ⟨rfl, rfl, kept_boxM rfl rfl rfl rfl ⟨?_, kept_any ?_ (kept_any ?_ ⟨?_, kept_any ?_ ?_⟩)⟩⟩
  · show some (some _) = _
    simp only [renO, renRows]
    rw [cls_inv (hf _)]
    rfl
  · show some x4 = _
    exact congrArg some (h4 _ _).symm
  · show some x5 = _
    exact congrArg some (h5 _ _).symm
  · show some (some _) = _
    simp only [renO, renRows]
    rw [rowsF_ren]
    congr 4
    refine rowsF_congr fun t h1 h2 => ?_
    by_cases e : nT A + i = t
    · subst e
      show _ = ([0, 1, 2, 3, 4, 5, 6, nT A + i + 10, 8, 9] ++ _).getD (gX (nT A + i) 7 (nT A + i)) _
      rw [show gX (nT A + i) 7 (nT A + i) = 7 from if_pos rfl]
      rfl
    · show t + 10 = List.getD _ (gX (nT A + i) 7 t) _
      rw [show gX (nT A + i) 7 t = t + 10 from if_neg e, hg _ t (by rw [len_mid]; omega), if_neg e]
  · show (mid A (chsO l) none B l.length)[nT A + i]? = _
    rw [chO_ren]
    unfold mid
    rw [List.getElem?_append_right (by rw [tailF_len]; omega), tailF_len, Nat.add_sub_cancel_left, List.getElem?_append_left (by rw [chsO_len]; exact hi)]
    unfold chsO
    rw [List.getElem?_map, ho]; rfl
  · show kept _ _ _ ((List.range' 10 (nT (A ++ l :: B))).set (nT A + i) 7) (mid A ((chsO l).set i none) none B l.length)
    rw [← mid_setC chsO_len hi]
    refine kept_swap (mid_len chsO_len) hp ?_ (fun t o _ ho => ho) (.inl rfl)
    rw [mid_setC chsO_len hi]
    refine mid_inv (hf _) ?_ rfl
    rw [List.map_set, chsO_ren]; rfl
theorem ghost_21 {x : Nat} (hx : 7 ≤ x ∧ x < 10) (h4 : InvX x4) (h5 : InvX x5) (ho : l[i]? = some o) (hpl : o'.place = o.place) (hrows : rows = (rowsF (shF 10) (nT A) l).set i (oRow (chC x o'.charges) o.place)) (hx9 : chO o'.charges = none ∨ [x7, x8, x9][x - 7]? = some (chO o'.charges)) (hl' : l' = l.set i o')
    (hG : ∀ d rest, refSlots d (0 :: 1 :: 2 :: 3 :: 4 :: 5 :: 6 :: rest) Γ G) : Ghost n 0 Γ (hS2 m P C R x4 x5 A l B i rows x7 x8 x9) G (hS1 m P C R x4 x5 A l' B) := by
  have hi := (List.getElem?_eq_some_iff.1 ho).1
  have hll : l'.length = l.length := by rw [hl', List.length_set]
  have hnn : nT (A ++ l' :: B) = nT (A ++ l :: B) := nT_same hll
  have hp : nT A + i < nT (A ++ l' :: B) := by rw [len_mid]; omega
  have hfx : ∃ fx : List Nat, [0, 1, 2, 3, 4, 5, 6] ++ fx = [0, 1, 2, 3, 4, 5, 6, 7, 8, 9].set x (nT A + i + 10) ∧ fx.length = 3 := by
    obtain rfl | rfl | rfl : x = 7 ∨ x = 8 ∨ x = 9 := by omega
    · exact ⟨_, rfl, rfl⟩
    · exact ⟨_, rfl, rfl⟩
    · exact ⟨_, rfl, rfl⟩
  obtain ⟨fx, hfx, hfl⟩ := hfx
  have hnd : ([0, 1, 2, 3, 4, 5, 6] ++ fx).Nodup ∧ ∀ a ∈ [0, 1, 2, 3, 4, 5, 6] ++ fx, (a < 10 ∧ a ≠ x) ∨ a = nT A + i + 10 := by
    rw [hfx]
    obtain rfl | rfl | rfl : x = 7 ∨ x = 8 ∨ x = 9 := by omega
    all_goals
      refine ⟨?_, fun a ha => ?_⟩
      · simp <;> omega
      · simp at ha; omega
  refine back (([0, 1, 2, 3, 4, 5, 6] ++ fx) ++ (List.range' 10 (nT (A ++ l' :: B))).set (nT A + i) x) (swap_allD (by simp [hfl]) hnd.1 hnd.2 hx.2 hp) rfl ?_ (hG _ _)
  have hg : ∀ (d t : Nat), t < nT (A ++ l' :: B) → (([0, 1, 2, 3, 4, 5, 6] ++ fx) ++ (List.range' 10 (nT (A ++ l' :: B))).set (nT A + i) x).getD (t + 10) d = if nT A + i = t then x else t + 10 := fun d t ht => rnS_get (by simp [hfl]) ht
  have hf : ∀ d, FixA (([0, 1, 2, 3, 4, 5, 6] ++ fx) ++ (List.range' 10 (nT (A ++ l' :: B))).set (nT A + i) x) d A l' B := fun d => fixA_swap (by simp [hfl]) (by omega) (by omega)
  obtain ⟨f7, f8, f9, rfl⟩ : ∃ a b c, fx = [a, b, c] := by
    match fx, hfl with
    | [a, b, c], _ => exact ⟨a, b, c, rfl⟩
  show kept _ _ _ (0 :: 1 :: 2 :: 3 :: 4 :: 5 :: 6 :: f7 :: f8 :: f9 :: (List.range' 10 (nT (A ++ l' :: B))).set (nT A + i) x) _
  refine ⟨rfl, rfl, kept_boxM rfl rfl rfl rfl ⟨?_, kept_any ?_ (kept_any ?_ ⟨?_, ?_⟩)⟩⟩
  · show some (some _) = _
    simp only [renO, renRows]
    rw [cls_inv (hf _), hll]
    rfl
  · show some x4 = _
    exact congrArg some (h4 _ _).symm
  · show some x5 = _
    exact congrArg some (h5 _ _).symm
  · show some (some _) = _
    simp only [renO, renRows]
    rw [rowsF_ren, hrows, ← rows_set ho hpl, hl']
    congr 4
    refine rowsF_congr fun t h1 h2 => ?_
    rw [List.length_set] at h2
    subst hl'
    exact (hg _ t (by rw [len_mid, hll]; omega)).symm
  · show kept _ _ _ ((List.range' 10 (nT (A ++ l' :: B))).set (nT A + i) x) (mid A (chsO l') none B l'.length)
    have hc : chsO l' = ((chsO l).set i none).set i (chO o'.charges) := by
      rw [List.set_set, hl']; unfold chsO; rw [List.map_set]
    have hcl : ((chsO l).set i none).length = l'.length := by rw [List.length_set, chsO_len, hll]
    rw [hc, ← mid_setC hcl (by omega)]
    refine kept_swap (mid_len hcl) hp ?_ (fun t o _ ho => ?_) ?_
    · rw [mid_setC hcl (by omega), ← hc]
      exact mid_inv (hf _) chsO_ren rfl
    · rw [hll] at ho; exact ho
    · rcases hx9 with h | h
      · exact .inl h
      · refine .inr ?_
        obtain rfl | rfl | rfl : x = 7 ∨ x = 8 ∨ x = 9 := by omega
        all_goals exact h
def hS0p (m : Model) (P C : PV) (R : Int) (x4 x5 : Option AObj) (A : List (List Opt)) (l : List Opt) (B : List (List Opt)) : Heap :=
  boxA m :: boxB :: boxM (.ms 3 1 0 (nCls A B)) (.pv P) (.pv C) R :: some ⟨51, 1, false, .m (clsF (shF 10) 0 A ++ [.ms (nT A + l.length + 10) 6 0 l.length] :: clsF (shF 10) (nT A + l.length + 1) B)⟩ :: x4 :: x5 :: none :: none :: none :: none :: tailF (shF 10) 0 (A ++ l :: B)
theorem hS0_pos (hl : 0 < l.length) : hS0 m P C R x4 x5 (A ++ l :: B) = hS0p m P C R x4 x5 A l B := by
  unfold hS0 hS0p
  rw [slC_pos (by rw [cls_len]; unfold nCls; omega), cls_len, obM_pos (by rw [cls_len]; unfold nCls; omega), cls_mid]
  cases l with
  | nil => simp at hl
  | cons a t => rfl
theorem ghost_01p (h4 : InvX x4) (h5 : InvX x5) (hl : 0 < l.length) (hG : ∀ d rest, refSlots d (0 :: 1 :: 2 :: 3 :: 4 :: 5 :: rest) Γ G) : Ghost n 0 Γ (hS0p m P C R x4 x5 A l B) G (hS1 m P C R x4 x5 A l B) := by
  rw [← hS0_pos hl]
  exact ghost_01 h4 h5 hl hG
theorem gX_at {q x : Nat} : gX q x q = x := if_pos rfl
theorem gX_rows {x : Nat} (ho : l[i]? = some o) : rowsF (gX (nT A + i) x) (nT A) l = (rowsF (shF 10) (nT A) l).set i (oRow (chC x o.charges) o.place) := by
  have h := rows_set (g := shF 10) (j := nT A) (x := x) (o' := o) ho rfl
  have e : l.set i o = l := by
    obtain ⟨hi, rfl⟩ := List.getElem?_eq_some_iff.1 ho
    exact List.set_getElem_self hi
  rw [e] at h
  exact h
theorem ghost_shift {L : List (List Opt)} (hG : ∀ d rest, refSlots d (0 :: 1 :: 2 :: 3 :: rest) Γ G) : Ghost n 0 Γ (boxA m :: boxB :: boxM (slC 3 1 (clsF (shF 4) 0 L)) (.pv P) (.pv C) R :: obM 51 1 (clsF (shF 4) 0 L) :: tailF (shF 4) 0 L) G (hS0 m P C R none none L) := by
  have hg : ∀ (d t : Nat), t < nT L → (0 :: 1 :: 2 :: 3 :: (nT L + 4) :: (nT L + 5) :: (nT L + 6) :: (nT L + 7) :: (nT L + 8) :: (nT L + 9) :: List.range' 4 (nT L)).getD (shF 10 t) d = shF 4 t := fun d t ht => by
    show (List.range' 4 (nT L)).getD t d = t + 4
    rw [List.getD_eq_getElem?_getD, List.getElem?_range' ht, Nat.one_mul, Nat.add_comm]; rfl
  have hc : ∀ d, (clsF (shF 10) 0 L).map (renL d (0 :: 1 :: 2 :: 3 :: (nT L + 4) :: (nT L + 5) :: (nT L + 6) :: (nT L + 7) :: (nT L + 8) :: (nT L + 9) :: List.range' 4 (nT L))) = clsF (shF 4) 0 L := fun d => by
    rw [clsF_ren]
    exact clsF_congr fun q _ h => hg _ q (by omega)
  refine back (0 :: 1 :: 2 :: 3 :: (nT L + 4) :: (nT L + 5) :: (nT L + 6) :: (nT L + 7) :: (nT L + 8) :: (nT L + 9) :: List.range' 4 (nT L)) ?_ rfl ?_ (hG _ _)
  · apply allD_of
    simp [List.mem_range'_1, List.nodup_range']
    omega
  · refine ⟨rfl, rfl, kept_boxM rfl ?_ rfl rfl (kept_obM rfl (hc _) ?_)⟩
    · rw [slC_ren, hc]; rfl
    · show kept _ _ _ (List.range' 4 (nT L)) (tailF (shF 10) 0 L)
      refine kept_map (by rw [tailF_len, List.length_range']) fun q i hq o ho => ?_
      have hq2 : q < nT L := by
        have := (List.getElem?_eq_some_iff.1 hq).1
        rwa [List.length_range'] at this
      rw [List.getElem?_range' hq2, Nat.one_mul] at hq
      injection hq with hq
      subst hq
      rw [tailF_ren, tailF_congr (g' := shF 4) fun q _ h => hg _ q (by omega)] at ho
      rw [show 4 + q = q + 4 from Nat.add_comm _ _]
      exact ho
theorem conv_S0 {L : List (List Opt)} {a0 a1 a2 a4 a5 a6 a7 a8 a9 : Option AObj} {ty : Nat} : convC (a0 :: a1 :: a2 :: obM ty 1 (clsF (shF 10) 0 L) :: a4 :: a5 :: a6 :: a7 :: a8 :: a9 :: tailF (shF 10) 0 L) 5 (slC 3 1 (clsF (shF 10) 0 L)) = some (.sl 1 (L.map optsRow)) ∧ okC (a0 :: a1 :: a2 :: obM ty 1 (clsF (shF 10) 0 L) :: a4 :: a5 :: a6 :: a7 :: a8 :: a9 :: tailF (shF 10) 0 L) 5 (slC 3 1 (clsF (shF 10) 0 L)) := by
  have h : HasT (a0 :: a1 :: a2 :: obM ty 1 (clsF (shF 10) 0 L) :: a4 :: a5 :: a6 :: a7 :: a8 :: a9 :: tailF (shF 10) 0 L) (shF 10) 0 L := HasT.of fun q _ => by rw [Nat.zero_add]; rfl
  exact ⟨conv_all (n := 2) h rfl, ok_all (n := 2) h rfl⟩
theorem conv_S0p {a0 a1 a2 a4 a5 a6 a7 a8 a9 : Option AObj} {ty : Nat} (hl : 0 < l.length) :
    convC (a0 :: a1 :: a2 :: some ⟨ty, 1, false, .m (clsF (shF 10) 0 A ++ [.ms (nT A + l.length + 10) 6 0 l.length] :: clsF (shF 10) (nT A + l.length + 1) B)⟩ :: a4 :: a5 :: a6 :: a7 :: a8 :: a9 :: tailF (shF 10) 0 (A ++ l :: B)) 5 (.ms 3 1 0 (nCls A B)) = some (.sl 1 ((A ++ l :: B).map optsRow)) ∧
    okC (a0 :: a1 :: a2 :: some ⟨ty, 1, false, .m (clsF (shF 10) 0 A ++ [.ms (nT A + l.length + 10) 6 0 l.length] :: clsF (shF 10) (nT A + l.length + 1) B)⟩ :: a4 :: a5 :: a6 :: a7 :: a8 :: a9 :: tailF (shF 10) 0 (A ++ l :: B)) 5 (.ms 3 1 0 (nCls A B)) := by
  have h := @conv_S0 (A ++ l :: B) a0 a1 a2 a4 a5 a6 a7 a8 a9 ty
  have e1 : slC 3 1 (clsF (shF 10) 0 (A ++ l :: B)) = .ms 3 1 0 (nCls A B) := by rw [slC_pos (by rw [cls_len]; unfold nCls; omega), cls_len]
  have e2 : obM ty 1 (clsF (shF 10) 0 (A ++ l :: B)) = some ⟨ty, 1, false, .m (clsF (shF 10) 0 A ++ [.ms (nT A + l.length + 10) 6 0 l.length] :: clsF (shF 10) (nT A + l.length + 1) B)⟩ := by
    rw [obM_pos (by rw [cls_len]; unfold nCls; omega), cls_mid]
    cases l with
    | nil => simp at hl
    | cons a t => rfl
  rw [e1, e2] at h
  exact h
theorem conv_two {H : Heap} {id z off len : Nat} {p q : PV} {f : FuncId} {caps : List AV} (h : convC H 5 (.ms id z off len) = some p) (h2 : convC H 5 (.fn f caps) = some q) : mapO (conv H) [.ms id z off len, .fn f caps] = some [.pv p, .pv q] := by
  simp only [mapO, conv, conv1, h, h2]
theorem ok_two {H : Heap} {id z off len : Nat} {f : FuncId} {caps : List AV} (h : okC H 5 (.ms id z off len)) (h2 : okC H 5 (.fn f caps)) : andL (ok1 H) [.ms id z off len, .fn f caps] := ⟨h, h2, trivial⟩
theorem far_tail {k m' : Nat} (hk : k + m' ≤ 10) : farH k m' 10 (tailF (shF 10) 0 (A ++ l :: B)) := tailF_far (fun q => by show k + m' ≤ q + 10; omega) hk
theorem far_rows {k m' q : Nat} (hk : k + m' ≤ 10) (hq : k + m' ≤ q ∨ q < k) : ∀ r ∈ clsF (shF 10) 0 A ++ [.ms q 6 0 l.length] :: clsF (shF 10) (nT A + l.length + 1) B, farL k m' r = true := fun r hr => by
  rcases List.mem_append.1 hr with hr | hr
  · exact clsF_far (fun q => by show k + m' ≤ q + 10; omega) r hr
  · rcases List.mem_cons.1 hr with rfl | hr
    · simp [farL, far]; omega
    · exact clsF_far (fun q => by show k + m' ≤ q + 10; omega) r hr
theorem far_a : farH 4 1 0 (hS0p m P C R none none A l B) :=
  ⟨.inl (by decide), farL_pvs, .inl (by decide), rfl, .inl (by decide), rfl, .inl (by decide), far_rows (by decide) (.inl (by omega)), far_tail (by decide)⟩
theorem far_b {ty z : Nat} {fz : Bool} {p : PV} : farH 5 1 0 (hS0p m P C R (some ⟨ty, z, fz, .box [.pv p]⟩) none A l B) :=
  ⟨.inl (by decide), farL_pvs, .inl (by decide), rfl, .inl (by decide), rfl, .inl (by decide), far_rows (by decide) (.inl (by omega)), .inl (by decide), rfl, far_tail (by decide)⟩
theorem row_at {z : List AV} {X : List (List AV)} : (clsF (shF 10) 0 A ++ z :: X)[A.length]? = some z := by
  rw [List.getElem?_append_right (by rw [clsF_len]; exact Nat.le_refl _), clsF_len, Nat.sub_self]; rfl
def bxS (s : List Int) : Option AObj := some ⟨22, 1, false, .box [.pv (.sl 1 (s.map intRow))]⟩
def bxK : Option AObj := some ⟨92, 1, false, .box [.fn 51 [.ptr 4 1 0 0]]⟩
theorem inv_bxS {s : List Int} : InvX (bxS s) := fun d rest => rfl
theorem inv_bxK : InvX bxK := fun d rest => rfl
theorem conv_in {H : Heap} {s : List Int} (h7 : H[7]? = some (chO o.charges)) (h4 : H[4]? = some (bxS s)) :
    mapO (conv H) [.agg (oRow (chC 7 o.charges) o.place), .ptr 4 1 0 0] = some [ag o.row, .pv (.ia [.sl 1 (s.map intRow)])] ∧ andL (ok1 H) [.agg (oRow (chC 7 o.charges) o.place), .ptr 4 1 0 0] := by
  have e1 := conv_ch (n := 4) h7
  have e2 := ok_ch (n := 4) h7
  constructor
  · simp only [mapO, conv, conv1, oRow, e1, convC, h4, bxS]
    rfl
  · refine ⟨?_, ?_, trivial⟩
    · show andL (okC H 5) (oRow (chC 7 o.charges) o.place)
      unfold oRow
      simp only [andL]
      cases hc : o.charges with
      | nil => exact ⟨True.intro, True.intro⟩
      | cons x t => rw [hc] at e2; exact ⟨e2, True.intro⟩
    · show okC H 5 (.ptr 4 1 0 0)
      simp only [okC, h4, bxS]
      exact True.intro
theorem gX_far {q x : Nat} (hx : x < 8) (t : Nat) : gX q x t < 8 ∨ 8 + 2 ≤ gX q x t := by
  unfold gX
  split
  · exact .inl hx
  · right; show 8 + 2 ≤ t + 10; omega
theorem rowsF_farX {k m' : Nat} {g : Nat → Nat} (h : ∀ q, g q < k ∨ k + m' ≤ g q) : ∀ {l : List Opt} {j : Nat}, ∀ r ∈ rowsF g j l, farL k m' r = true
  | [], _, r, hr => by cases hr
  | o :: l, j, r, hr => by
    rcases List.mem_cons.1 hr with rfl | hr
    · have hg := h j
      simp only [oRow, farL, far]
      cases hc : o.charges with
      | nil => rfl
      | cons c t => simp [chC, far]; omega
    · exact rowsF_farX h (l := l) r hr
theorem far_S2 {q : Nat} {s : List Int} (hx4 : x4 = none ∨ x4 = bxS s) (hx5 : x5 = none ∨ x5 = bxK) : farH 8 2 0 (hS2 m P C R x4 x5 A l B i (rowsF (gX q 7) (nT A) l) (chO o.charges) none none) := by
  have ht : farH 8 2 10 (mid A ((chsO l).set i none) none B l.length) := by
    unfold mid
    refine farH_app (tailF_far (fun q => by show 8 + 2 ≤ q + 10; omega) (by decide)) (farH_app ?_ ?_)
    · have hch : ∀ (X : Heap) (j : Nat), 10 ≤ j → (∀ y ∈ X, y = none ∨ ∃ o : Opt, y = chO o.charges) → farH 8 2 j X := fun X => by
        induction X with
        | nil => intro j _ _; trivial
        | cons y X ih =>
          intro j hj hy
          have h2 := ih (j + 1) (by omega) fun z hz => hy z (by simp [hz])
          rcases hy y (by simp) with rfl | ⟨o, rfl⟩
          · exact h2
          · cases o.charges with
            | nil => exact h2
            | cons c t => exact ⟨.inr (by omega), trivial, h2⟩
      refine hch _ _ (by omega) fun y hy => ?_
      rcases List.mem_or_eq_of_mem_set hy with hy | rfl
      · obtain ⟨o, _, rfl⟩ := List.mem_map.1 hy
        exact .inr ⟨o, rfl⟩
      · exact .inl rfl
    · exact tailF_far (fun q => by show 8 + 2 ≤ q + 10; omega) (by simp; omega)
  have h7 : farH 8 2 7 (chO o.charges :: none :: none :: mid A ((chsO l).set i none) none B l.length) := by
    cases o.charges with
    | nil => exact ht
    | cons c t => exact ⟨.inl (by decide), trivial, ht⟩
  have h6 : farH 8 2 6 (some ⟨62, 6, false, .m (rowsF (gX q 7) (nT A) l)⟩ :: chO o.charges :: none :: none :: mid A ((chsO l).set i none) none B l.length) :=
    ⟨.inl (by decide), rowsF_farX (gX_far (by decide)), h7⟩
  have h45 : farH 8 2 4 (x4 :: x5 :: some ⟨62, 6, false, .m (rowsF (gX q 7) (nT A) l)⟩ :: chO o.charges :: none :: none :: mid A ((chsO l).set i none) none B l.length) := by
    have h5 : farH 8 2 5 (x5 :: some ⟨62, 6, false, .m (rowsF (gX q 7) (nT A) l)⟩ :: chO o.charges :: none :: none :: mid A ((chsO l).set i none) none B l.length) := by
      rcases hx5 with rfl | rfl
      · exact h6
      · exact ⟨.inl (by decide), rfl, h6⟩
    rcases hx4 with rfl | rfl
    · exact h5
    · exact ⟨.inl (by decide), rfl, h5⟩
  exact ⟨.inl (by decide), farL_pvs, .inl (by decide), rfl, .inl (by decide), rfl, .inl (by decide), far_rows (by decide) (.inr (by decide)), h45⟩
end
end Go.Proofs.YtihpjcmloecaaaaGreat.Cw
/-
  symmetry.Break's functions: whether an option, or a class, can use a set.
-/
namespace Go.Proofs.YtihpjcmloecaaaaGreat.Cw
open Go Go.Cw Go.Proofs
set_option linter.unusedVariables false
set_option maxRecDepth 100000
set_option maxHeartbeats 8000000
theorem c_in (s : List Int) (o : Opt) (hs : s.length ≤ 100000) : PCall Tryz.prog 51 [ag o.row, .pv (.ia [.sl 1 (s.map intRow)])] (fun r => r = vbool (inS s o)) := by
  have hc := c_containsN s o.place.room hs
  refine acall_of tok mixed 9 rfl (fn := Tryz.f51) (c := Tryz.f51.body.getD .skip) (by kernel_rfl) (by kernel_rfl) (by kernel_rfl) rfl 0 rfl ?_
  repeat' (first | refine o1 ?_ | refine o2 ?_ | refine k1 ?_ | refine k2 ?_ | refine k7 ?_ | (change retOk _ _ _ _; refine ret_pure rfl trivial ?_) | (change vcFun _ _ _ _ _; refine call_eq rfl (by repeat' (first | trivial | refine And.intro ?_ ?_ | (show 0 + _ ≤ List.length _; simp))) ALeL.refl (hc) rfl ?_) | fail)
  rfl
theorem c_inAny (s : List Int) (l : List Opt) (hs : s.length ≤ 100000) (hl : l.length ≤ 100000) : PCall Tryz.prog 54 [.pv (.sl 6 (l.map Opt.row)), .pv (.ia [.fn 51 [.ia [.sl 1 (s.map intRow)]]])] (fun r => r = vbool (l.any (inS s))) := by
  have hc := c_any_opt l 51 [.ia [.sl 1 (s.map intRow)]] (inS s) hl fun o _ => c_in s o hs
  refine acall_of tok mixed 7 rfl (fn := Tryz.f54) (c := Tryz.f54.body.getD .skip) (by kernel_rfl) (by kernel_rfl) (by kernel_rfl) rfl 0 rfl ?_
  repeat' (first | refine o1 ?_ | refine o2 ?_ | refine k1 ?_ | refine k2 ?_ | refine k7 ?_ | (change retOk _ _ _ _; refine ret_pure rfl trivial ?_) | (change vcFun _ _ _ _ _; refine call_eq rfl (by repeat' (first | trivial | refine And.intro ?_ ?_ | (show 0 + _ ≤ List.length _; simp))) ALeL.refl (hc) rfl ?_) | fail)
  rfl
theorem c_inClass (s : List Int) (L : List (List Opt)) (hs : s.length ≤ 100000) (hl : ∀ l ∈ L, l.length ≤ 100000) (hL : L.length ≤ 100000) : PCall Tryz.prog 53 [.pv (.sl 1 (L.map optsRow)), .pv (.fn 54 [.ia [.fn 51 [.ia [.sl 1 (s.map intRow)]]]])] (fun r => r = vint .i64 (idxB (fun l => l.any (inS s)) L)) :=
  c_index_opts L 54 [.ia [.fn 51 [.ia [.sl 1 (s.map intRow)]]]] (fun l => l.any (inS s)) hL fun l h => c_inAny s l hs (hl l h)
end Go.Proofs.YtihpjcmloecaaaaGreat.Cw
/-
  Breaking symmetries, plain: which class is changed; bounds.
-/
namespace Go.Proofs.YtihpjcmloecaaaaGreat.Cw
open Go Go.Cw Go.Proofs
set_option linter.unusedVariables false
set_option maxRecDepth 100000
set_option maxHeartbeats 8000000
section
variable {m : Model} {R : Int} {s : List Int} {L : List (List Opt)} {k : Nat}
theorem setsF_ne : ∀ {n : Nat} {l : List Int}, ∀ s ∈ setsF m n l, ∃ x t, s = x :: t
  | 0, _, s, h => absurd h List.not_mem_nil
  | n + 1, [], s, h => absurd h List.not_mem_nil
  | n + 1, x :: l, s, h => by
    unfold setsF at h
    rcases List.mem_append.1 h with h | h
    · split at h
      · exact absurd h List.not_mem_nil
      · exact ⟨_, _, List.mem_singleton.1 h⟩
    · exact setsF_ne (n := n) s h
theorem setsV_ne (s : List Int) (h : s ∈ setsV m) : ∃ x t, s = x :: t := by
  unfold setsV at h
  split at h
  · exact setsF_ne s h
  · exact absurd h List.not_mem_nil
theorem brkO_hit {x0 : Int} {t : List Int} {o : Opt} (hs : s = x0 :: t) (h1 : inS s o = true) (h2 : ¬ o.place.room = x0) : brkO R s o = ⟨o.place, o.charges ++ [⟨R, forbI⟩]⟩ := by
  subst hs
  have h3 : hitS (x0 :: t) o = true := by
    unfold hitS
    rw [h1, Bool.true_and]
    exact pB_t h2
  unfold brkO
  rw [if_pos h3]
theorem brkO_head {x0 : Int} {t : List Int} {o : Opt} (hs : s = x0 :: t) (h2 : o.place.room = x0) : brkO R s o = o := by
  subst hs
  have h3 : ¬ hitS (x0 :: t) o = true := by
    unfold hitS
    rw [pB_f (show ¬ o.place.room ≠ (x0 :: t).headD 0 from fun h => h h2), Bool.and_false]
    exact Bool.false_ne_true
  unfold brkO
  rw [if_neg h3]
theorem brkO_out {o : Opt} (h2 : inS s o = false) : brkO R s o = o := by
  have h3 : ¬ hitS s o = true := by
    unfold hitS
    rw [h2, Bool.false_and]
    exact Bool.false_ne_true
  unfold brkO
  rw [if_neg h3]
theorem any_plc {l l' : List Opt} (h : plcO l = plcO l') : l.any (inS s) = l'.any (inS s) := by
  have e : ∀ l : List Opt, l.any (inS s) = (plcO l).any fun p => pB (p.room ∈ s) := fun l => by unfold plcO; rw [List.any_map]; rfl
  rw [e, e, h]
theorem cls_of (hok : modelE m = 0) (hs : s ∈ setsV m) (hL : L.map plcO = m.classes.map plcO) : ∃ A l B, L = A ++ l :: B ∧ (∀ a ∈ A, a.any (inS s) = false) ∧ l.any (inS s) = true := by
  obtain ⟨x, t, rfl⟩ := setsV_ne s hs
  have hx := (setsV_ok hok).sub _ hs x (by simp)
  have hx := (((rooms_spec m).1 x).1 hx).2
  obtain ⟨l, hl, hxl⟩ := List.mem_flatMap.1 hx
  obtain ⟨o, ho, rfl⟩ := List.mem_map.1 hxl
  have hany : L.any (fun l => l.any (inS (o.place.room :: t))) = true := by
    have e : ∀ L : List (List Opt), L.any (fun l => l.any (inS (o.place.room :: t))) = (L.map plcO).any fun q => q.any fun p => pB (p.room ∈ o.place.room :: t) := fun L => by
      rw [List.any_map]
      congr 1
      funext l
      unfold plcO
      simp only [Function.comp, List.any_map]
      rfl
    rw [e, hL, ← e]
    exact List.any_eq_true.2 ⟨l, hl, List.any_eq_true.2 ⟨o, ho, pB_t (by simp)⟩⟩
  clear hL hl hs hx hxl ho
  induction L with
  | nil => simp at hany
  | cons a L ih =>
    cases h : a.any (inS (o.place.room :: t)) with
    | true => exact ⟨[], a, L, rfl, by simp, h⟩
    | false =>
      rw [List.any_cons, h, Bool.false_or] at hany
      obtain ⟨A, l, B, rfl, h1, h2⟩ := ih hany
      refine ⟨a :: A, l, B, rfl, fun x hx => ?_, h2⟩
      rcases List.mem_cons.1 hx with rfl | hx
      · exact h
      · exact h1 x hx
theorem idx_cls {A B : List (List Opt)} {l : List Opt} (h1 : ∀ a ∈ A, a.any (inS s) = false) (h2 : l.any (inS s) = true) : idxB (fun l => l.any (inS s)) (A ++ l :: B) = A.length := by
  refine idxB_at (fun j hj y hy => ?_) (x := l) (by simp) h2
  rw [List.getElem?_append_left hj] at hy
  exact h1 y (List.mem_of_getElem? hy)
theorem brkC_ch {c : Nat} (h : ∀ l ∈ L, ∀ o ∈ l, o.charges.length ≤ c) : ∀ l ∈ brkC R s L, ∀ o ∈ l, o.charges.length ≤ c + 1 := by
  induction L with
  | nil => intro l hl; cases hl
  | cons a L ih =>
    intro l hl o ho
    simp only [brkC] at hl
    split at hl
    · rcases List.mem_cons.1 hl with rfl | hl
      · obtain ⟨q, hq, rfl⟩ := List.mem_map.1 ho
        have := h a (by simp) q hq
        unfold brkO
        split
        · simp; omega
        · omega
      · have := h l (by simp [hl]) o ho; omega
    · rcases List.mem_cons.1 hl with rfl | hl
      · have := h l (by simp) o ho; omega
      · exact ih (fun l hl => h l (by simp [hl])) l hl o ho
theorem brkL_ch : ∀ {S : List (List Int)} {L : List (List Opt)} {c : Nat}, (∀ l ∈ L, ∀ o ∈ l, o.charges.length ≤ c) → ∀ l ∈ brkL R S L, ∀ o ∈ l, o.charges.length ≤ c + S.length
  | [], _, _, h => h
  | s :: S, L, c, h => by
    have := brkL_ch (S := S) (L := brkC R s L) (brkC_ch h)
    intro l hl o ho
    have := this l hl o ho
    simp only [List.length_cons]; omega
theorem brkL_snoc {S : List (List Int)} : brkL R (S ++ [s]) L = brkC R s (brkL R S L) := by simp [brkL]
theorem plc_len {L L' : List (List Opt)} (h : L.map plcO = L'.map plcO) {n : Nat} (hb : ∀ l ∈ L', l.length ≤ n) : ∀ l ∈ L, l.length ≤ n := fun l hl => by
  have h1 : plcO l ∈ L'.map plcO := h ▸ List.mem_map.2 ⟨l, hl, rfl⟩
  obtain ⟨l', h2, h3⟩ := List.mem_map.1 h1
  have := congrArg List.length h3
  unfold plcO at this
  rw [List.length_map, List.length_map] at this
  have := hb l' h2; omega
theorem sets_few : ∀ {n : Nat} {l : List Int}, (setsF m n l).length ≤ l.length
  | 0, _ => Nat.zero_le _
  | n + 1, [] => Nat.le_refl _
  | n + 1, x :: l => by
    unfold setsF
    have := sets_few (n := n) (l := l.filter fun b => !swB m x b)
    have h2 := List.length_filter_le (fun b => !swB m x b) l
    rw [List.length_append, List.length_cons]
    have : (if l.filter (swB m x) = [] then [] else [x :: l.filter (swB m x)]).length ≤ 1 := by split <;> simp
    omega
theorem sets_len (hz : sizedP m) (hok : modelE m = 0) : ∀ s ∈ setsV m, s.length ≤ 100000 := fun s h => by
  unfold setsV at h
  rw [if_pos hok] at h
  have := setsF_len.2 s h
  have := rooms_len hz; omega
def lI (f : Opt → Opt) (l : List Opt) (i : Nat) : List Opt := (l.take i).map f ++ l.drop i
theorem lI_all {f : Opt → Opt} {l : List Opt} : lI f l l.length = l.map f := by simp [lI]
theorem lI_len {f : Opt → Opt} {l : List Opt} {i : Nat} (h : i ≤ l.length) : (lI f l i).length = l.length := by simp [lI]; omega
theorem lI_at {f : Opt → Opt} {l : List Opt} {i : Nat} {o : Opt} (h : l[i]? = some o) : (lI f l i)[i]? = some o := by
  have hi := (List.getElem?_eq_some_iff.1 h).1
  unfold lI
  rw [List.getElem?_append_right (by simp; omega)]
  simp only [List.length_map, List.length_take]
  rw [List.getElem?_drop, show i + (i - min i l.length) = i by omega, h]
theorem lI_succ {f : Opt → Opt} {l : List Opt} {i : Nat} {o : Opt} (h : l[i]? = some o) : lI f l (i + 1) = (lI f l i).set i (f o) := by
  have hi := (List.getElem?_eq_some_iff.1 h).1
  have hd : l.drop i = o :: l.drop (i + 1) := by
    rw [List.drop_eq_getElem_cons hi]
    congr 1
    exact Option.some.inj ((List.getElem?_eq_getElem hi).symm.trans h)
  unfold lI
  rw [List.take_add_one, h, hd, List.set_append_right _ _ (by simp; omega)]
  simp only [List.length_map, List.length_take, Option.toList_some, List.map_append, List.map_cons, List.map_nil, List.append_assoc, List.singleton_append]
  rw [show i - min i l.length = 0 by omega]
  rfl
end
end Go.Proofs.YtihpjcmloecaaaaGreat.Cw
/-
  Symmetry, plain: the canonical plan, as_ the program and as_ the reference make it.
-/
namespace Go.Proofs.YtihpjcmloecaaaaGreat.Cw
open Go Go.Cw Go.Proofs
set_option linter.unusedVariables false
section
variable {E : List (Int × Int)} {g : Int → Int}
end
structure CanI (S : List (List Int)) (E : List (Int × Int)) : Prop where
  keys : E.Pairwise fun e f => e.1 ≠ f.1
  vals : E.Pairwise fun e f => e.2 ≠ f.2
  same : ∀ e ∈ E, ∃ s ∈ S, e.1 ∈ s ∧ e.2 ∈ s
section
variable {m : Model} {R : List Int} {S : List (List Int)} {E : List (Int × Int)} {s : List Int} {r : Int}
end
end Go.Proofs.YtihpjcmloecaaaaGreat.Cw
/-
  Symmetry, plain: what the reference's tables say; the plan, set by set.
-/
namespace Go.Proofs.YtihpjcmloecaaaaGreat.Cw
open Go Go.Cw Go.Proofs
set_option linter.unusedVariables false
def rmAt (m : Model) (plan : List Int) (j : Nat) : Int := match plan[j]?, m.classes[j]? with
  | some o, some l => if o < 0 then -1 else match l[o.toNat]? with
    | some q => q.place.room
    | none => -1
  | _, _ => -1
section
variable {m : Model} {plan : List Int} {R : List Int} {S : List (List Int)}
noncomputable def canL (m : Model) (plan : List Int) (S : List (List Int)) : List Int := (canS m plan S plan.length).1
def plI (s : List Int) (t : Int) : Int := if t ∈ s then ((s.idxOf t : Nat) : Int) else -1
def toA (E : List (Int × Int)) (s : List Int) : List Int := s.map fun x => match toF E x with
  | some t => plI s t
  | none => -1
def tkA (E : List (Int × Int)) (s : List Int) : List Bool := s.map (takenB E)
noncomputable def outR (m : Model) (plan : List Int) (S : List (List Int)) (k c : Nat) : List Int := (List.range plan.length).map fun j =>
  if pB ((∃ s ∈ S.take k, rmAt m plan j ∈ s) ∨ (j < c ∧ ∃ s, S[k]? = some s ∧ rmAt m plan j ∈ s)) then (canL m plan S).getD j 0 else plan.getD j 0
end
end Go.Proofs.YtihpjcmloecaaaaGreat.Cw
/-
  Symmetry, plain: what a plan costs, cost by cost.
-/
namespace Go.Proofs.YtihpjcmloecaaaaGreat.Cw
open Go Go.Cw Go.Proofs
set_option linter.unusedVariables false
set_option maxRecDepth 100000
def gr {α : Type} (F : Nat → List α) (i : Nat) : List α := (List.range i).flatMap F
theorem gr_mem {α : Type} {F : Nat → List α} {n : Nat} {x : α} : x ∈ gr F n ↔ ∃ i, i < n ∧ x ∈ F i := by
  unfold gr
  rw [List.mem_flatMap]
  constructor
  · rintro ⟨i, h1, h2⟩; exact ⟨i, List.mem_range.1 h1, h2⟩
  · rintro ⟨i, h1, h2⟩; exact ⟨i, List.mem_range.2 h1, h2⟩
theorem gr_succ {α : Type} {F : Nat → List α} {i : Nat} : gr F (i + 1) = gr F i ++ F i := by
  unfold gr; rw [List.range_succ, List.flatMap_append]; simp
theorem take_snoc {α : Type} {l : List α} {k : Nat} {x : α} (h : l[k]? = some x) : l.take (k + 1) = l.take k ++ [x] := by
  obtain ⟨h1, h2⟩ := List.getElem?_eq_some_iff.1 h
  rw [List.take_succ_eq_append_getElem h1, h2]
def upto {α β : Type} (l : List α) (f : Nat → α → Option β) (n : Nat) : List β := (List.range n).filterMap fun i => (l[i]?).bind (f i)
theorem upto_some {α β : Type} {l : List α} {f : Nat → α → Option β} {n : Nat} {x : α} {y : β} (h : l[n]? = some x) (hf : f n x = some y) : upto l f (n + 1) = upto l f n ++ [y] := by
  unfold upto
  rw [List.range_succ, List.filterMap_append]
  simp [h, hf]
theorem upto_none {α β : Type} {l : List α} {f : Nat → α → Option β} {n : Nat} {x : α} (h : l[n]? = some x) (hf : f n x = none) : upto l f (n + 1) = upto l f n := by
  unfold upto
  rw [List.range_succ, List.filterMap_append]
  simp [h, hf]
theorem upto_mem {α β : Type} {l : List α} {f : Nat → α → Option β} {n : Nat} {y : β} : y ∈ upto l f n ↔ ∃ i x, i < n ∧ l[i]? = some x ∧ f i x = some y := by
  unfold upto
  rw [List.mem_filterMap]
  constructor
  · rintro ⟨i, hi, h⟩
    obtain ⟨x, h1, h2⟩ := Option.bind_eq_some_iff.1 h
    exact ⟨i, x, List.mem_range.1 hi, h1, h2⟩
  · rintro ⟨i, x, hi, h1, h2⟩
    exact ⟨i, List.mem_range.2 hi, by rw [h1]; exact h2⟩
def BC : Int := 1099511627776
def addC (a b : Int) : Int := if a + b < 1099511627776 then a + b else 1099511627776
def timesC (n c : Int) : Int := if n ≤ 0 then 0 else if c < 1099511627776 then (if n * c < 1099511627776 then n * c else 1099511627776) else 1099511627776
abbrev Term1 := Int × Int
def upC (l : List Int) (t : Term1) : List Int := l.set t.1.toNat (addC ((l[t.1.toNat]?).getD 0) t.2)
def chgT (m : Model) (plan : List Int) (i : Nat) : List Term1 := match m.classes[i]?, plan[i]? with
  | some l, some o => if o < 0 then [] else match l[o.toNat]? with
    | some x => x.charges.map fun c => (c.rule, c.cost)
    | none => []
  | _, _ => []
def entV (m : Model) (p : Pair) (a b : Int) : Int := match m.classes[p.second.toNat]? with
  | some l => (p.table[(a * l.length + b).toNat]?).getD 0
  | none => 0
def pairT (m : Model) (plan : List Int) (p : Pair) : Option Term1 := match plan[p.first.toNat]?, plan[p.second.toNat]? with
  | some a, some b => if 0 ≤ a ∧ 0 ≤ b then some (p.rule, entV m p a b) else none
  | _, _ => none
def prsT (m : Model) (plan : List Int) (n : Nat) : List Term1 := upto m.pairs (fun _ => pairT m plan) n
def hitP (plan : List Int) (x : Load) : Prop := plan[x.cls.toNat]? = some x.opt
noncomputable def loadT (plan : List Int) (l : List Load) (n : Nat) : Int := ((l.take n).map fun x => if pB (hitP plan x) then x.weight else 0).sum
noncomputable def cntT (plan : List Int) (c : Count) : Term1 := (c.rule, timesC (loadT plan c.loads c.loads.length - c.most) c.penalty)
noncomputable def cntsT (m : Model) (plan : List Int) (n : Nat) : List Term1 := (m.counts.take n).map (cntT plan)
noncomputable def termsV (m : Model) (plan : List Int) : List Term1 := gr (chgT m plan) plan.length ++ prsT m plan m.pairs.length ++ cntsT m plan m.counts.length
def zeroC (m : Model) : List Int := List.replicate m.rules.toNat 0
def runC (m : Model) (T : List Term1) : List Int := T.foldl upC (zeroC m)
noncomputable def rulesV (m : Model) (plan : List Int) : List Int := runC m (termsV m plan)
def totalV (l : List Int) (n : Nat) : Int := (l.take n).foldl addC 0
def BndC (l : List Int) : Prop := ∀ n ∈ l, 0 ≤ n ∧ n ≤ 1099511627776
def TermOk (m : Model) (t : Term1) : Prop := ruleP m t.1 ∧ 0 ≤ t.2 ∧ t.2 ≤ 1099511627776
theorem addC_bnd {a b : Int} (ha : 0 ≤ a) (hb : 0 ≤ b) : 0 ≤ addC a b ∧ addC a b ≤ 1099511627776 := by unfold addC; split <;> omega
theorem getD_bnd {l : List Int} (h : BndC l) (i : Nat) : 0 ≤ (l[i]?).getD 0 ∧ (l[i]?).getD 0 ≤ 1099511627776 := by
  cases hc : l[i]? with
  | none => exact ⟨by decide, by decide⟩
  | some n => exact h n (List.mem_of_getElem? hc)
theorem upC_len {l : List Int} {t : Term1} : (upC l t).length = l.length := List.length_set
theorem upC_bnd {l : List Int} {t : Term1} (h : BndC l) (ht : 0 ≤ t.2) : BndC (upC l t) := fun n hn => by
  rcases List.mem_or_eq_of_mem_set hn with hn | rfl
  · exact h n hn
  · exact addC_bnd (getD_bnd h _).1 ht
theorem runC_len {T : List Term1} : ∀ {l : List Int}, (T.foldl upC l).length = l.length := by
  induction T with
  | nil => intro l; rfl
  | cons t T ih => intro l; rw [List.foldl_cons, ih, upC_len]
theorem runC_bnd {T : List Term1} : ∀ {l : List Int}, BndC l → (∀ t ∈ T, 0 ≤ t.2) → BndC (T.foldl upC l) := by
  induction T with
  | nil => intro l h _; exact h
  | cons t T ih => intro l h ht; rw [List.foldl_cons]; exact ih (upC_bnd h (ht t (List.mem_cons_self ..))) fun q hq => ht q (List.mem_cons_of_mem _ hq)
theorem zero_bnd {m : Model} : BndC (zeroC m) := fun n hn => by
  have := List.eq_of_mem_replicate hn
  omega
theorem zero_len {m : Model} : (zeroC m).length = m.rules.toNat := List.length_replicate
theorem run_len {m : Model} {T : List Term1} : (runC m T).length = m.rules.toNat := by unfold runC; rw [runC_len, zero_len]
theorem run_snoc {m : Model} {T : List Term1} {t : Term1} : runC m (T ++ [t]) = upC (runC m T) t := by unfold runC; rw [List.foldl_append]; rfl
theorem run_bnd {m : Model} {T : List Term1} (h : ∀ t ∈ T, 0 ≤ t.2) : BndC (runC m T) := runC_bnd zero_bnd h
def sumR (T : List Term1) (r : Nat) : Int := ((T.filter fun t => t.1.toNat == r).map Prod.snd).sum
theorem sumR_nil {r : Nat} : sumR [] r = 0 := rfl
theorem sumR_app {S T : List Term1} {r : Nat} : sumR (S ++ T) r = sumR S r + sumR T r := by
  unfold sumR; rw [List.filter_append, List.map_append, List.sum_append]
theorem sumR_cons {t : Term1} {T : List Term1} {r : Nat} : sumR (t :: T) r = (if t.1.toNat = r then t.2 else 0) + sumR T r := by
  unfold sumR
  by_cases h : t.1.toNat = r
  · rw [List.filter_cons_of_pos (by simpa using h), if_pos h]; rfl
  · rw [List.filter_cons_of_neg (by simpa using h), if_neg h]; omega
theorem sumR_pos {T : List Term1} {r : Nat} (h : ∀ t ∈ T, 0 ≤ t.2) : 0 ≤ sumR T r := by
  induction T with
  | nil => exact Int.le_refl _
  | cons t T ih =>
    rw [sumR_cons]
    have h1 := ih fun q hq => h q (List.mem_cons_of_mem _ hq)
    have h2 := h t (List.mem_cons_self ..)
    split <;> omega
theorem sumR_mem {T : List Term1} {t : Term1} (h : ∀ t ∈ T, 0 ≤ t.2) (ht : t ∈ T) : t.2 ≤ sumR T t.1.toNat := by
  induction T with
  | nil => cases ht
  | cons q T ih =>
    rw [sumR_cons]
    have hq := h q (List.mem_cons_self ..)
    have hT := fun q hq => h q (List.mem_cons_of_mem _ hq)
    rcases List.mem_cons.1 ht with rfl | ht
    · rw [if_pos rfl]; have := sumR_pos (r := t.1.toNat) hT; omega
    · have := ih hT ht; split <;> omega
def minC (n : Int) : Int := if n < 1099511627776 then n else 1099511627776
theorem run_at {T : List Term1} {r : Nat} : ∀ {l : List Int} {n : Int}, (∀ t ∈ T, 0 ≤ t.2) → (∀ t ∈ T, t.1.toNat < l.length) → l[r]? = some (minC n) → 0 ≤ n → (T.foldl upC l)[r]? = some (minC (n + sumR T r)) := by
  induction T with
  | nil => intro l n _ _ h _; rw [sumR_nil, Int.add_zero]; exact h
  | cons t T ih =>
    intro l n hT hr h hn
    have h2 := hT t (List.mem_cons_self ..)
    have h3 := hr t (List.mem_cons_self ..)
    rw [List.foldl_cons, sumR_cons, ← Int.add_assoc]
    refine ih (fun q hq => hT q (List.mem_cons_of_mem _ hq)) (fun q hq => by rw [upC_len]; exact hr q (List.mem_cons_of_mem _ hq)) ?_ (by split <;> omega)
    unfold upC
    by_cases e : t.1.toNat = r
    · subst e
      rw [List.getElem?_set_self h3, h, if_pos rfl, Option.getD_some]
      refine congrArg some ?_
      unfold addC minC; (repeat' split) <;> omega
    · rw [List.getElem?_set_ne e, h, if_neg e, Int.add_zero]
theorem rules_at {m : Model} {T : List Term1} {r : Nat} (hr : r < m.rules.toNat) (hT : ∀ t ∈ T, TermOk m t) : (runC m T)[r]? = some (minC (sumR T r)) := by
  have h1 : (zeroC m)[r]? = some (minC 0) := by unfold zeroC; rw [List.getElem?_replicate, if_pos hr]; rfl
  have := run_at (T := T) (fun t ht => (hT t ht).2.1) (fun t ht => by rw [zero_len]; have := (hT t ht).1; have h1 := this.1; have h2 := this.2; omega) h1 (Int.le_refl _)
  rw [Int.zero_add] at this
  exact this
theorem aap {α : Type} {P : α → Prop} {a b : List α} (h1 : ∀ x ∈ a, P x) (h2 : ∀ x ∈ b, P x) : ∀ x ∈ a ++ b, P x := fun x hx => (List.mem_append.1 hx).elim (h1 x) (h2 x)
theorem priceP_bnd {n : Int} (h : priceP n) : 0 ≤ n ∧ n ≤ 1099511627776 := by unfold priceP at h; omega
theorem chgT_at {m : Model} {plan : List Int} {i k : Nat} {l : List Opt} {x : Opt} (hl : m.classes[i]? = some l) (ho : plan[i]? = some (k : Int)) (hx : l[k]? = some x) : chgT m plan i = x.charges.map fun c => (c.rule, c.cost) := by
  unfold chgT; rw [hl, ho]; dsimp only
  rw [if_neg (by omega), Int.toNat_natCast, hx]
theorem chgT_neg {m : Model} {plan : List Int} {i : Nat} {o : Int} (ho : plan[i]? = some o) (h : o < 0) : chgT m plan i = [] := by
  unfold chgT
  split
  · rename_i l o' hl ho'
    rw [ho] at ho'; cases ho'
    rw [if_pos h]
  · rfl
theorem chgT_ok {m : Model} (g : goodP m) {plan : List Int} {i : Nat} : ∀ t ∈ chgT m plan i, TermOk m t := by
  intro t ht
  unfold chgT at ht
  split at ht
  · rename_i l o hl ho
    split at ht
    · cases ht
    · split at ht
      · rename_i x hx
        obtain ⟨c, hc, rfl⟩ := List.mem_map.1 ht
        obtain ⟨k, hk⟩ := List.getElem?_of_mem hc
        have := g.1 l (List.mem_of_getElem? hl) x (List.mem_of_getElem? hx) k (List.getElem?_eq_some_iff.1 hk).1 c hk
        exact ⟨this.1, priceP_bnd this.2.1⟩
      · cases ht
  · cases ht
theorem run_next {m : Model} {T : List Term1} {r c v : Int} (h0 : (runC m T)[r.toNat]? = some v) : (runC m T).set r.toNat (addC v c) = runC m (T ++ [(r, c)]) := by
  rw [run_snoc]; unfold upC; dsimp only; rw [h0]; rfl
theorem pairT_some {m : Model} {plan : List Int} {p : Pair} {a b : Int} (h1 : plan[p.first.toNat]? = some a) (h2 : plan[p.second.toNat]? = some b) (ha : 0 ≤ a) (hb : 0 ≤ b) : pairT m plan p = some (p.rule, entV m p a b) := by
  unfold pairT; rw [h1, h2]; dsimp only; rw [if_pos ⟨ha, hb⟩]
theorem pairT_none {m : Model} {plan : List Int} {p : Pair} {a b : Int} (h1 : plan[p.first.toNat]? = some a) (h2 : plan[p.second.toNat]? = some b) (h : a < 0 ∨ b < 0) : pairT m plan p = none := by
  unfold pairT; rw [h1, h2]; dsimp only; rw [if_neg (by omega)]
theorem entV_at {m : Model} {p : Pair} {a b : Nat} {l : List Opt} {v : Int} (hl : m.classes[p.second.toNat]? = some l) (hv : p.table[a * l.length + b]? = some v) : entV m p a b = v := by
  unfold entV; rw [hl]; dsimp only
  rw [show ((a : Int) * l.length + b).toNat = a * l.length + b from by
    rw [← Int.natCast_mul, ← Int.natCast_add, Int.toNat_natCast], hv]; rfl
theorem pairT_ok {m : Model} {plan : List Int} {p : Pair} {t : Term1} (h : pairP m p) (ht : pairT m plan p = some t) : TermOk m t := by
  unfold pairT at ht
  split at ht
  · rename_i a b h1 h2
    split at ht
    · injection ht with ht
      subst ht
      refine ⟨h.1, ?_⟩
      show 0 ≤ entV m p a b ∧ entV m p a b ≤ 1099511627776
      unfold entV
      split
      · rename_i l hl
        cases hv : p.table[(a * l.length + b).toNat]? with
        | none => exact ⟨by decide, by decide⟩
        | some v =>
          rcases h.2.2.2.2 v (List.mem_of_getElem? hv) with e | e
          · rw [e]; exact ⟨by decide, by decide⟩
          · exact priceP_bnd e
      · exact ⟨by decide, by decide⟩
    · cases ht
  · cases ht
theorem prsT_ok {m : Model} (g : goodP m) {plan : List Int} {n : Nat} : ∀ t ∈ prsT m plan n, TermOk m t := by
  intro t ht
  obtain ⟨i, p, -, hp, h⟩ := upto_mem.1 ht
  exact pairT_ok (g.2.1 i (List.getElem?_eq_some_iff.1 hp).1 p hp).1 h
theorem timesC_bnd {n c : Int} (hc : 0 ≤ c) : 0 ≤ timesC n c ∧ timesC n c ≤ 1099511627776 := by
  unfold timesC
  split
  · omega
  · have : 0 ≤ n * c := Int.mul_nonneg (by omega) hc
    (repeat' split) <;> omega
theorem cntsT_ok {m : Model} (g : goodP m) {plan : List Int} {n : Nat} : ∀ t ∈ cntsT m plan n, TermOk m t := by
  intro t ht
  obtain ⟨c, hc, rfl⟩ := List.mem_map.1 ht
  have := g.2.2 c (List.mem_of_mem_take hc)
  exact ⟨this.1, timesC_bnd (priceP_bnd this.2.2.2.1).1⟩
theorem loadT_snoc {plan : List Int} {l : List Load} {k : Nat} {x : Load} (h : l[k]? = some x) : loadT plan l (k + 1) = loadT plan l k + if pB (hitP plan x) then x.weight else 0 := by
  unfold loadT; rw [take_snoc h, List.map_append, List.sum_append]; simp
theorem cntsT_snoc {m : Model} {plan : List Int} {k : Nat} {c : Count} (h : m.counts[k]? = some c) : cntsT m plan (k + 1) = cntsT m plan k ++ [cntT plan c] := by
  unfold cntsT; rw [take_snoc h, List.map_append]; rfl
theorem gr_ok {m : Model} (g : goodP m) {plan : List Int} {n : Nat} : ∀ t ∈ gr (chgT m plan) n, TermOk m t := fun t ht => by
  obtain ⟨i, -, h⟩ := gr_mem.1 ht
  exact chgT_ok g t h
theorem run_get {m : Model} {T : List Term1} {r : Int} (hT : ∀ t ∈ T, TermOk m t) (hr : ruleP m r) : ∃ v, (runC m T)[r.toNat]? = some v ∧ (0 ≤ v ∧ v ≤ 1099511627776) := by
  obtain ⟨v, hv⟩ := getE (show r.toNat < (runC m T).length by rw [run_len]; have := hr.1; have := hr.2; omega)
  exact ⟨v, hv, run_bnd (m := m) (fun t ht => (hT t ht).2.1) v (List.mem_of_getElem? hv)⟩
theorem loadT_bnd {plan : List Int} {l : List Load} (h : ∀ x ∈ l, 0 ≤ x.weight ∧ x.weight ≤ 1000) : ∀ {k : Nat}, k ≤ l.length → 0 ≤ loadT plan l k ∧ loadT plan l k ≤ 1000 * k
  | 0, _ => by unfold loadT; simp
  | k + 1, hk => by
    obtain ⟨x, hx⟩ := getE (show k < l.length by omega)
    rw [loadT_snoc hx]
    have h1 := loadT_bnd (plan := plan) h (k := k) (by omega)
    have h2 := h x (List.mem_of_getElem? hx)
    split <;> omega
theorem hit_iff {plan : List Int} {x : Load} {o : Int} (h : plan[x.cls.toNat]? = some o) : hitP plan x ↔ o = x.opt := by
  unfold hitP; rw [h]; simp
theorem total_snoc {l : List Int} {i : Nat} {n : Int} (h : l[i]? = some n) : totalV l (i + 1) = addC (totalV l i) n := by
  unfold totalV; rw [take_snoc h, List.foldl_append]; rfl
theorem total_bnd {l : List Int} (h : BndC l) : ∀ {i : Nat}, i ≤ l.length → 0 ≤ totalV l i ∧ totalV l i ≤ 1099511627776
  | 0, _ => by unfold totalV; simp
  | i + 1, hi => by
    obtain ⟨n, hn⟩ := getE (show i < l.length by omega)
    rw [total_snoc hn]
    exact addC_bnd (total_bnd h (i := i) (by omega)).1 (h n (List.mem_of_getElem? hn)).1
theorem terms_ok {m : Model} (g : goodP m) {plan : List Int} : ∀ t ∈ termsV m plan, TermOk m t := aap (aap (gr_ok g) (prsT_ok g)) (cntsT_ok g)
theorem rules_bnd {m : Model} (g : goodP m) {plan : List Int} : BndC (rulesV m plan) := run_bnd fun t ht => (terms_ok g t ht).2.1
noncomputable def costV (m : Model) (plan : List Int) : Int := totalV (rulesV m plan) (rulesV m plan).length
end Go.Proofs.YtihpjcmloecaaaaGreat.Cw
/-
  Symmetry, plain: a symmetry changes no costs.
-/
namespace Go.Proofs.YtihpjcmloecaaaaGreat.Cw
open Go Go.Cw Go.Proofs
set_option linter.unusedVariables false
noncomputable def imgP (m : Model) (a b : Int) (p : List Int) : List Int := (List.range p.length).map fun (i : Nat) => (match p[i]?, m.classes[i]? with
  | some o, some l => if o < 0 then -1 else ((imN l a b o.toNat : Nat) : Int)
  | _, _ => -1 : Int)
theorem fm_congr {α β : Type} {f g : α → Option β} : ∀ {l : List α}, (∀ x ∈ l, f x = g x) → l.filterMap f = l.filterMap g
  | [], _ => rfl
  | x :: l, h => by
    rw [List.filterMap_cons, List.filterMap_cons, h x (List.mem_cons_self ..), fm_congr fun y hy => h y (List.mem_cons_of_mem _ hy)]
section
variable {m : Model} {a b : Int} {p : List Int}
theorem imgP_len : (imgP m a b p).length = p.length := by unfold imgP; rw [List.length_map, List.length_range]
theorem imgP_at {i : Nat} {o : Int} {l : List Opt} (ho : p[i]? = some o) (hl : m.classes[i]? = some l) : (imgP m a b p)[i]? = some (if o < 0 then -1 else ((imN l a b o.toNat : Nat) : Int)) := by
  have hi := (List.getElem?_eq_some_iff.1 ho).1
  unfold imgP
  rw [List.getElem?_map, List.getElem?_range hi, Option.map_some, ho, hl]
theorem imgP_none {i : Nat} (ho : p[i]? = none) : (imgP m a b p)[i]? = none := by
  rw [List.getElem?_eq_none_iff] at ho ⊢
  rw [imgP_len]; exact ho
theorem imgP_planned (hi : allImg m a b) (hp : plannedP m p) : plannedP m (imgP m a b p) := by
  refine ⟨by rw [imgP_len]; exact hp.1, fun i h o ho => ?_⟩
  rw [imgP_len] at h
  obtain ⟨o', ho'⟩ := getE h
  obtain ⟨l, hl⟩ := getE (l := m.classes) (i := i) (by have := hp.1; omega)
  rw [imgP_at ho' hl] at ho
  injection ho with ho
  rcases hp.2 i h o' ho' with rfl | ⟨_, h2, l', h3, h4⟩
  · rw [if_pos (by decide)] at ho; exact .inl ho.symm
  · rw [Int.toNat_natCast, hl] at h3; cases h3
    rw [if_neg (by omega)] at ho
    have := (ok_imN (hi l (List.mem_of_getElem? hl) o'.toNat (by omega))).2
    exact .inr ⟨by omega, by omega, l, by rw [Int.toNat_natCast]; exact hl, by omega⟩
theorem chgT_img (hi : allImg m a b) (hp : plannedP m p) (i : Nat) : chgT m (imgP m a b p) i = chgT m p i := by
  rcases Nat.lt_or_ge i p.length with h | h
  · obtain ⟨o, ho⟩ := getE h
    obtain ⟨l, hl⟩ := getE (l := m.classes) (i := i) (by have := hp.1; omega)
    have hq := imgP_at (a := a) (b := b) ho hl
    rcases hp.2 i h o ho with rfl | ⟨_, h2, l', h3, h4⟩
    · rw [if_pos (by decide)] at hq
      rw [chgT_neg hq (by decide), chgT_neg ho (by decide)]
    · rw [Int.toNat_natCast, hl] at h3; cases h3
      obtain ⟨n, rfl⟩ := Int.eq_ofNat_of_zero_le h2
      rw [if_neg (by omega), Int.toNat_natCast] at hq
      have hok := hi l (List.mem_of_getElem? hl) n (by omega)
      have him := ok_imN hok
      obtain ⟨j, x, y, e1, e2, e3, e4⟩ := hok
      rw [him.1] at e1; injection e1 with e1
      rw [← e1] at e3
      rw [chgT_at hl hq e3, chgT_at hl ho e2, e4]
  · have h0 : p[i]? = none := List.getElem?_eq_none h
    have h1 := imgP_none (m := m) (a := a) (b := b) h0
    unfold chgT; rw [h0, h1]
theorem entV_nat {q : Pair} {i k : Nat} {l : List Opt} (hl : m.classes[q.second.toNat]? = some l) : entV m q i k = entZ m q i k := by
  unfold entV entZ
  rw [hl]
  show (q.table[((i : Int) * (l.length : Int) + (k : Int)).toNat]?).getD 0 = _
  rw [show ((i : Int) * (l.length : Int) + (k : Int)).toNat = i * l.length + k by rw [← Int.natCast_mul, ← Int.natCast_add, Int.toNat_natCast]]
  rfl
theorem pairT_img (hi : allImg m a b) (hp : plannedP m p) {q : Pair} (hq : pairP m q) (he : entSame m a b q) : pairT m (imgP m a b p) q = pairT m p q := by
  obtain ⟨q1, q2, q3, ⟨la, lb, q4, q5, q6⟩, q7⟩ := hq
  have hf := (List.getElem?_eq_some_iff.1 q4).1
  have hs := (List.getElem?_eq_some_iff.1 q5).1
  have hpl := hp.1
  obtain ⟨oa, hoa⟩ := getE (show q.first.toNat < p.length by omega)
  obtain ⟨ob, hob⟩ := getE (show q.second.toNat < p.length by omega)
  have ha := imgP_at (a := a) (b := b) hoa q4
  have hb := imgP_at (a := a) (b := b) hob q5
  have ga := hp.2 _ (List.getElem?_eq_some_iff.1 hoa).1 oa hoa
  have gb := hp.2 _ (List.getElem?_eq_some_iff.1 hob).1 ob hob
  by_cases hab : 0 ≤ oa ∧ 0 ≤ ob
  · obtain ⟨-, -, l1, e1, ha3⟩ := ga.resolve_left (by omega)
    obtain ⟨-, -, l2, e2, hb3⟩ := gb.resolve_left (by omega)
    rw [Int.toNat_natCast, q4] at e1; cases e1
    rw [Int.toNat_natCast, q5] at e2; cases e2
    obtain ⟨x, rfl⟩ := Int.eq_ofNat_of_zero_le hab.1
    obtain ⟨y, rfl⟩ := Int.eq_ofNat_of_zero_le hab.2
    rw [if_neg (by omega), Int.toNat_natCast] at ha hb
    rw [pairT_some ha hb (by omega) (by omega), pairT_some hoa hob hab.1 hab.2, entV_nat q5, entV_nat q5, ← he la lb q4 q5 x (by omega) y (by omega)]
  · rw [pairT_none hoa hob (by omega), pairT_none ha hb]
    by_cases h : oa < 0
    · left; rw [if_pos h]; decide
    · right; rw [if_pos (by omega)]; decide
noncomputable def hitW (p : List Int) (l : List Load) : Int := (l.map fun x => if pB (hitP p x) then x.weight else 0).sum
theorem hitW_perm {l l' : List Load} (h : l.Perm l') : hitW p l = hitW p l' := by
  unfold hitW
  induction h with
  | nil => rfl
  | cons x _ ih => simp only [List.map_cons, List.sum_cons, ih]
  | swap x y l => simp only [List.map_cons, List.sum_cons]; omega
  | trans _ _ h1 h2 => rw [h1, h2]
theorem load_hit {l : List Load} : loadT p l l.length = hitW p l := by unfold loadT hitW; rw [List.take_length]
noncomputable def cntF (p : List Int) (c : Count) : Term1 := (c.rule, timesC (hitW p c.loads - c.most) c.penalty)
theorem cntT_F {c : Count} : cntT p c = cntF p c := by unfold cntT cntF; rw [load_hit]
theorem cntF_norm {c : Count} : cntF p (optC Load.opt c) = cntF p c := by
  unfold cntF optC
  dsimp only
  rw [hitW_perm (srt_perm _), show c.loads.map (optL Load.opt) = c.loads by
    rw [show optL Load.opt = id from funext fun x => rfl, List.map_id]]
theorem hit_img (hi : allImg m a b) (hp : plannedP m p) {x : Load} (hx : optionP m x.cls x.opt) : hitP (imgP m a b p) (optL (imLoad m a b) x) ↔ hitP p x := by
  obtain ⟨h1, h2, l, h3, h4⟩ := hx
  have hlt : x.cls.toNat < p.length := by have := (List.getElem?_eq_some_iff.1 h3).1; have := hp.1; omega
  obtain ⟨o, ho⟩ := getE hlt
  have hq := imgP_at (a := a) (b := b) ho h3
  have hil : imLoad m a b x = imN l a b x.opt.toNat := by unfold imLoad; rw [h3]
  unfold hitP optL
  dsimp only
  rw [hq, ho, hil, Option.some.injEq, Option.some.injEq]
  rcases hp.2 _ hlt o ho with rfl | ⟨_, g2, l', g3, g4⟩
  · rw [if_pos (by decide)]
    constructor <;> intro h <;> omega
  · rw [Int.toNat_natCast, h3] at g3; cases g3
    rw [if_neg (by omega)]
    constructor
    · intro h
      have := imN_inj (hi l (List.mem_of_getElem? h3)) (i := o.toNat) (j := x.opt.toNat) (by omega) (by omega) (by omega)
      omega
    · intro h; rw [h]
theorem cntF_img (hi : allImg m a b) (hp : plannedP m p) {c : Count} (hc : ∀ x ∈ c.loads, optionP m x.cls x.opt) : cntF (imgP m a b p) (optC (imLoad m a b) c) = cntF p c := by
  unfold cntF optC
  dsimp only
  rw [hitW_perm (srt_perm _)]
  unfold hitW
  rw [List.map_map]
  have : c.loads.map ((fun x => if pB (hitP (imgP m a b p) x) then x.weight else 0) ∘ optL (imLoad m a b)) = c.loads.map fun x => if pB (hitP p x) then x.weight else 0 := List.map_congr_left fun x hx => by
    show (if pB (hitP (imgP m a b p) (optL (imLoad m a b) x)) then x.weight else 0) = _
    rw [pB_iff (hit_img hi hp (hc x hx))]
  rw [this]
theorem cnts_img (hg : goodP m) (hs : swapP m a b) (hp : plannedP m p) : (m.counts.map (cntT (imgP m a b p))).Perm (m.counts.map (cntT p)) := by
  have e1 : m.counts.map (cntT (imgP m a b p)) = (m.counts.map (optC Load.opt)).map (cntF (imgP m a b p)) := by
    rw [List.map_map]; exact List.map_congr_left fun c _ => by rw [cntT_F, ← cntF_norm]; rfl
  have e2 : m.counts.map (cntT p) = (m.counts.map (optC (imLoad m a b))).map (cntF (imgP m a b p)) := by
    rw [List.map_map]
    exact List.map_congr_left fun c hc => by
      rw [cntT_F, ← cntF_img hs.1 hp fun x hx => (good_load hg hc hx).1]; rfl
  rw [e1, e2]
  exact ((cnt_iff.1 hs.2.2).map _).symm
theorem sumR_perm {S T : List Term1} (h : S.Perm T) (r : Nat) : sumR S r = sumR T r := by
  induction h with
  | nil => rfl
  | cons x _ ih => rw [sumR_cons, sumR_cons, ih]
  | swap x y l => rw [sumR_cons, sumR_cons, sumR_cons, sumR_cons]; omega
  | trans _ _ h1 h2 => rw [h1, h2]
theorem terms_img (hg : goodP m) (hs : swapP m a b) (hp : plannedP m p) (r : Nat) : sumR (termsV m (imgP m a b p)) r = sumR (termsV m p) r := by
  have h1 : gr (chgT m (imgP m a b p)) (imgP m a b p).length = gr (chgT m p) p.length := by
    rw [imgP_len]; unfold gr
    rw [show chgT m (imgP m a b p) = chgT m p from funext fun i => chgT_img hs.1 hp i]
  have h2 : prsT m (imgP m a b p) m.pairs.length = prsT m p m.pairs.length := by
    unfold prsT upto
    refine fm_congr fun i hi => ?_
    cases hq : m.pairs[i]? with
    | none => rfl
    | some q => exact pairT_img hs.1 hp (hg.2.1 i (List.getElem?_eq_some_iff.1 hq).1 q hq).1 (hs.2.1 q (List.mem_of_getElem? hq))
  unfold termsV
  rw [h1, h2, sumR_app, sumR_app, sumR_app, sumR_app]
  congr 1
  unfold cntsT
  rw [List.take_length]
  exact sumR_perm (cnts_img hg hs hp) r
theorem rules_eq {p q : List Int} (hg : goodP m) (h : ∀ r, sumR (termsV m p) r = sumR (termsV m q) r) : rulesV m p = rulesV m q := by
  apply List.ext_getElem?
  intro r
  have hl : (rulesV m p).length = m.rules.toNat := run_len
  have hl2 : (rulesV m q).length = m.rules.toNat := run_len
  rcases Nat.lt_or_ge r m.rules.toNat with hr | hr
  · have h1 : (rulesV m p)[r]? = some (minC (sumR (termsV m p) r)) := rules_at hr (terms_ok hg)
    have h2 : (rulesV m q)[r]? = some (minC (sumR (termsV m q) r)) := rules_at hr (terms_ok hg)
    rw [h1, h2, h r]
  · rw [List.getElem?_eq_none (by omega), List.getElem?_eq_none (by omega)]
theorem cost_img (hg : goodP m) (hs : swapP m a b) (hp : plannedP m p) : rulesV m (imgP m a b p) = rulesV m p ∧ costV m (imgP m a b p) = costV m p := by
  have h := rules_eq hg fun r => terms_img hg hs hp r
  refine ⟨h, ?_⟩
  unfold costV; rw [h]
end
end Go.Proofs.YtihpjcmloecaaaaGreat.Cw
/-
  Symmetry, plain: plans that arise from each other have the same canonical plan, which arises from them.
-/
namespace Go.Proofs.YtihpjcmloecaaaaGreat.Cw
open Go Go.Cw Go.Proofs
set_option linter.unusedVariables false
theorem plan_iff {m : Model} {p : List Int} : plannedP m p ↔ isPlanP m p := by
  constructor
  · rintro ⟨h1, h2⟩
    refine ⟨h1, fun j hj o l ho hl => ?_⟩
    rcases h2 j hj o ho with rfl | ⟨_, h3, l', h4, h5⟩
    · omega
    · rw [Int.toNat_natCast, hl] at h4; cases h4; omega
  · rintro ⟨h1, h2⟩
    refine ⟨h1, fun j hj o ho => ?_⟩
    obtain ⟨l, hl⟩ := getE (l := m.classes) (i := j) (by omega)
    have := h2 j hj o l ho hl
    by_cases h : o = -1
    · exact .inl h
    · exact .inr ⟨by omega, by omega, l, by rw [Int.toNat_natCast]; exact hl, this.2⟩
noncomputable def plF (m : Model) (p : List Int) (f : Int → Int) : List Int := (List.range p.length).map fun (c : Nat) => (match p[c]?, m.classes[c]? with
  | some o, some l => if o < 0 then -1 else imgI (imgO l o.toNat (f (rmAt m p c)))
  | _, _ => -1 : Int)
section
variable {m : Model} {p : List Int}
def KeepS (S : List (List Int)) (f : Int → Int) : Prop := (∀ s ∈ S, ∀ r ∈ s, f r ∈ s) ∧ ∀ r, (∀ s ∈ S, r ∉ s) → f r = r
end
end Go.Proofs.YtihpjcmloecaaaaGreat.Cw
