/-
  Part 7 of the proof (SYI, SYJ, SYK, SYL, SYM, SYN, SW2, SW3, SC1, SC2, SC3, SC4, SC5, SW1, SW4, SC6, SA1): what later parts use. No conditions.
-/
import Derived.Test.YtihpjcmloecaaaaGreatMW6
/-
  Symmetry: the rooms of a model, ascending, by the reference.
-/
namespace Go.Proofs.YtihpjcmloecaaaaGreat.Cw
open Go Go.Cw Go.Proofs
set_option linter.unusedVariables false
set_option maxRecDepth 100000
set_option maxHeartbeats 8000000
def allL (l : List Opt) : List Int := l.map fun o => o.place.room
def allR (c : List (List Opt)) : List Int := c.flatMap allL
theorem roomsR_mem {c : List (List Opt)} {x : Int} : x ∈ roomsR c ↔ 0 ≤ x ∧ x ∈ allR c := by
  unfold roomsR allR roomL allL
  simp only [List.mem_flatMap, List.mem_filter, decide_eq_true_eq]
  constructor
  · rintro ⟨l, h1, h2, h3⟩; exact ⟨h3, l, h1, h2⟩
  · rintro ⟨h3, l, h1, h2⟩; exact ⟨l, h1, h2, h3⟩
theorem rooms_spec (m : Model) : (∀ x, x ∈ roomsV m ↔ 0 ≤ x ∧ x ∈ allR m.classes) ∧ (roomsV m).Pairwise fun a b => a < b := by
  obtain ⟨h1, h2⟩ := compactI_spec (sortI_asc (roomsR m.classes))
  refine ⟨fun x => ?_, h2⟩
  show x ∈ compactI _ ↔ _
  rw [h1, (sortI_perm _).mem_iff, roomsR_mem]
def NX (last : Int) (rs : List Int) (n : Int) : Prop := (n = -1 ∧ ∀ r ∈ rs, ¬ last < r) ∨ (n ∈ rs ∧ last < n ∧ ∀ r ∈ rs, last < r → n ≤ r)
theorem NX.nil {last : Int} : NX last [] (-1) := .inl ⟨rfl, by simp⟩
theorem NX.take {last n r : Int} {rs : List Int} (hl : -1 ≤ last) (h : NX last rs n) (h1 : last < r) (h2 : n < 0 ∨ r < n) : NX last (rs ++ [r]) r := by
  refine .inr ⟨by simp, h1, fun x hx hxl => ?_⟩
  rcases List.mem_append.1 hx with hx | hx
  · rcases h with ⟨rfl, h⟩ | ⟨h3, h4, h5⟩
    · exact absurd hxl (h x hx)
    · have := h5 x hx hxl; omega
  · simp at hx; omega
theorem NX.leave {last n r : Int} {rs : List Int} (hl : -1 ≤ last) (h : NX last rs n) (h1 : ¬ (last < r ∧ (n < 0 ∨ r < n))) : NX last (rs ++ [r]) n := by
  rcases h with ⟨rfl, h⟩ | ⟨h3, h4, h5⟩
  · refine .inl ⟨rfl, fun x hx hxl => ?_⟩
    rcases List.mem_append.1 hx with hx | hx
    · exact h x hx hxl
    · simp at hx; omega
  · refine .inr ⟨by simp [h3], h4, fun x hx hxl => ?_⟩
    rcases List.mem_append.1 hx with hx | hx
    · exact h5 x hx hxl
    · simp at hx; omega
def lastI (V : List Int) : Nat → Int
  | 0 => -1
  | t + 1 => (V[t]?).getD (-1)
section
variable {m : Model} {t : Nat} {n : Int}
theorem last_ge (ht : t ≤ (roomsV m).length) : -1 ≤ lastI (roomsV m) t := by
  cases t with
  | zero => exact Int.le_refl _
  | succ t =>
    obtain ⟨x, hx⟩ := getE (show t < (roomsV m).length by omega)
    have := ((rooms_spec m).1 x).1 (List.mem_of_getElem? hx)
    show -1 ≤ ((roomsV m)[t]?).getD (-1)
    rw [hx]; show -1 ≤ x; omega
theorem last_lt {j : Nat} {x : Int} (hj : (roomsV m)[j]? = some x) (htj : t ≤ j) : lastI (roomsV m) t < x := by
  cases t with
  | zero => have := ((rooms_spec m).1 x).1 (List.mem_of_getElem? hj); show (-1 : Int) < x; omega
  | succ t =>
    have hjl := (List.getElem?_eq_some_iff.1 hj)
    obtain ⟨hj1, hj2⟩ := hjl
    obtain ⟨y, hy⟩ := getE (show t < (roomsV m).length by omega)
    obtain ⟨ht1, ht2⟩ := List.getElem?_eq_some_iff.1 hy
    have := List.pairwise_iff_getElem.1 (rooms_spec m).2 t j ht1 hj1 (by omega)
    show ((roomsV m)[t]?).getD (-1) < x
    rw [hy]; show y < x
    omega
theorem last_le {j : Nat} {x : Int} (hj : (roomsV m)[j]? = some x) (h : lastI (roomsV m) t < x) (ht : t ≤ (roomsV m).length) : t ≤ j := by
  rcases Nat.lt_or_ge j t with hlt | hge
  · exfalso
    cases t with
    | zero => omega
    | succ t =>
      obtain ⟨hj1, hj2⟩ := List.getElem?_eq_some_iff.1 hj
      obtain ⟨y, hy⟩ := getE (show t < (roomsV m).length by omega)
      obtain ⟨ht1, ht2⟩ := List.getElem?_eq_some_iff.1 hy
      have h : ((roomsV m)[t]?).getD (-1) < x := h
      rw [hy] at h
      have h : y < x := h
      rcases Nat.eq_or_lt_of_le (Nat.le_of_lt_succ hlt) with e | e
      · subst e; rw [hj] at hy; injection hy with hy; omega
      · have := List.pairwise_iff_getElem.1 (rooms_spec m).2 j t hj1 ht1 e
        omega
  · exact hge
theorem nx_none (ht : t ≤ (roomsV m).length) (h : NX (lastI (roomsV m) t) (allR m.classes) n) (hn : n < 0) : (roomsV m).take t = roomsV m := by
  rcases Nat.lt_or_ge t (roomsV m).length with hlt | hge
  · exfalso
    obtain ⟨x, hx⟩ := getE hlt
    have hxm := ((rooms_spec m).1 x).1 (List.mem_of_getElem? hx)
    have h1 := last_lt hx (Nat.le_refl t)
    rcases h with ⟨-, h⟩ | ⟨-, h2, -⟩
    · exact h x hxm.2 h1
    · have := last_ge ht; omega
  · exact List.take_of_length_le hge
theorem nx_some (ht : t ≤ (roomsV m).length) (h : NX (lastI (roomsV m) t) (allR m.classes) n) (hn : ¬ n < 0) : (roomsV m)[t]? = some n := by
  rcases h with ⟨rfl, -⟩ | ⟨h1, h2, h3⟩
  · omega
  · obtain ⟨j, hj⟩ := List.getElem?_of_mem (((rooms_spec m).1 n).2 ⟨by omega, h1⟩)
    have htj := last_le hj h2 ht
    rcases Nat.eq_or_lt_of_le htj with e | e
    · rw [e]; exact hj
    · exfalso
      obtain ⟨hj1, hj2⟩ := List.getElem?_eq_some_iff.1 hj
      obtain ⟨x, hx⟩ := getE (show t < (roomsV m).length by omega)
      obtain ⟨ht1, ht2⟩ := List.getElem?_eq_some_iff.1 hx
      have h4 := h3 x (((rooms_spec m).1 x).1 (List.mem_of_getElem? hx)).2 (last_lt hx (Nat.le_refl t))
      have := List.pairwise_iff_getElem.1 (rooms_spec m).2 t j ht1 hj1 e
      omega
end
theorem allR_succ {c : List (List Opt)} {i : Nat} {l : List Opt} (h : c[i]? = some l) : allR (c.take (i + 1)) = allR (c.take i) ++ allL l := by
  unfold allR; rw [tk_snoc h, List.flatMap_append]; simp
theorem allL_succ {l : List Opt} {k : Nat} {o : Opt} (h : l[k]? = some o) : allL (l.take (k + 1)) = allL (l.take k) ++ [o.place.room] := by
  unfold allL; rw [tk_snoc h, List.map_append]; rfl
theorem rooms_len {m : Model} (hz : sizedP m) : (roomsV m).length ≤ 576 := by
  have h1 := roomsR_len hz.2.1
  have h2 := hz.1
  have h3 := compactI_len (sortI (roomsR m.classes))
  rw [sortI_len] at h3
  unfold roomsV
  omega
theorem c_used0 (m : Model) (hz : sizedP m) : PCall Tryz.prog 42 [ag m.cells] (fun r => Leq r (.pv (.sl 1 ((roomsV m).map intRow)))) := by
  have hVl := rooms_len hz
  obtain ⟨z1, z2, z3, z4, z5⟩ := hz
  refine acall_of tok mixed 57 rfl (fn := Tryz.f42) (c := Tryz.f42.body.getD .skip) (by kernel_rfl) (by kernel_rfl) (by kernel_rfl) rfl 0 rfl ?_
  repeat' (first | refine o1 ?_ | refine o2 ?_ | refine k1 ?_ | refine k2 ?_ | refine k4 ?_ | fail)
  refine loop_for (fun t : Nat => [(1, .ptr 0 4 0 0), (3, slP 1 1 (((roomsV m).take t).map intRow)), (4, vint .i64 (lastI (roomsV m) t))])
    (fun t => [some ⟨29, 4, false, .box (pvs m.cells)⟩, obP 3 1 (((roomsV m).take t).map intRow)])
    (fun t => t ≤ (roomsV m).length) (fun t => (roomsV m).length - t) 0 (Nat.zero_le _) ?_ ?_
  · exact back [0, 1] rfl rfl (by repeat' (first | exact trivial | exact rfl | refine And.intro ?_ ?_)) (by repeat' (first | exact trivial | exact rfl | refine And.intro ?_ ?_))
  intro t ht
  have hlg := last_ge ht
  have hn1 := fun n => nx_none (n := n) ht
  have hn2 := fun n => nx_some (n := n) ht
  have hnl : ∀ n, (roomsV m)[t]? = some n → lastI (roomsV m) (t + 1) = n := fun n h => by show ((roomsV m)[t]?).getD (-1) = n; rw [h]; rfl
  have htl : ((roomsV m).take t).length ≤ 576 := Nat.le_trans (List.length_take_le' ..) hVl
  have htn : ∀ n, (roomsV m)[t]? = some n → (roomsV m).take (t + 1) = (roomsV m).take t ++ [n] := fun n h => tk_snoc h
  generalize hLA : lastI (roomsV m) t = LA at *
  generalize hTK : (roomsV m).take t = TK at *
  repeat' (first | (refine fh_ob ?_) | refine o1 ?_ | refine o2 ?_ | refine k1 ?_ | refine k2 ?_ | refine k4 ?_ | fail)
  refine loop_for (fun x : Nat × Int => [(1, .ptr 0 4 0 0), (3, slP 1 1 (TK.map intRow)), (4, vint .i64 LA), (5, vint .i64 x.2), (6, vint .i64 x.1)])
    (fun x => [some ⟨29, 4, false, .box (pvs m.cells)⟩, obP 3 1 (TK.map intRow)])
    (fun x => x.1 ≤ m.classes.length ∧ NX LA (allR (m.classes.take x.1)) x.2) (fun x => m.classes.length - x.1) (0, -1) ⟨Nat.zero_le _, NX.nil⟩ ?_ ?_
  · exact back [0, 1] rfl rfl (by repeat' (first | exact trivial | exact rfl | refine kept_ob rfl ?_ | refine And.intro ?_ ?_)) (by repeat' (first | exact trivial | exact rfl | exact ren_get rfl | refine And.intro ?_ ?_))
  rintro ⟨i, n⟩ ⟨hi, hnx⟩
  dsimp only at hi hnx ⊢
  rcases Nat.lt_or_ge i m.classes.length with hlt | hge
  · obtain ⟨l, hl⟩ := getE hlt
    have hln := z2 l (List.mem_of_getElem? hl)
    have hsu := allR_succ hl
    generalize allR (m.classes.take i) = RS at *
    repeat' (first | (refine fh_ob ?_) | refine o1 ?_ | refine o2 ?_ | refine k1 ?_ | refine k2 ?_ | refine k3 ?_ | refine k4 ?_ | refine k6 ?_ | refine And.intro ?_ ?_ | (intro h; first | exact Bool.noConfusion h | exact nz _ h | exact nl h | (simp at h; done) | (simp at h; first | (exfalso; omega) | skip) | skip) | refine eqv_len_map ?_ | fail)
    refine loop_for (fun x : Nat × Int => [(1, .ptr 0 4 0 0), (3, slP 1 1 (TK.map intRow)), (4, vint .i64 LA), (5, vint .i64 x.2), (6, vint .i64 i), (7, vint .i64 x.1)])
      (fun x => [some ⟨29, 4, false, .box (pvs m.cells)⟩, obP 3 1 (TK.map intRow)])
      (fun x => x.1 ≤ l.length ∧ NX LA (RS ++ allL (l.take x.1)) x.2) (fun x => l.length - x.1) (0, n) ⟨Nat.zero_le _, by simpa [allL] using hnx⟩ ?_ ?_
    · exact back [0, 1] rfl rfl (by repeat' (first | exact trivial | exact rfl | refine kept_ob rfl ?_ | refine And.intro ?_ ?_)) (by repeat' (first | exact trivial | exact rfl | exact ren_get rfl | refine And.intro ?_ ?_))
    rintro ⟨k, n⟩ ⟨hk, hnk⟩
    dsimp only at hk hnk ⊢
    rcases Nat.lt_or_ge k l.length with hkl | hkg
    · obtain ⟨o, ho⟩ := getE hkl
      have hsk : RS ++ allL (l.take (k + 1)) = (RS ++ allL (l.take k)) ++ [o.place.room] := by rw [allL_succ ho, List.append_assoc]
      have htk := fun h1 h2 => hnk.take (r := o.place.room) hlg h1 h2
      have hlv := fun h => hnk.leave (r := o.place.room) hlg h
      rw [← hsk] at htk hlv
      repeat' (first | (refine fh_ob ?_) | (refine idx_sl (k := i) (at_map hl) rfl ?_) | (refine idx_sl (k := k) (at_map ho) rfl ?_) | refine o1 ?_ | refine o2 ?_ | refine k1 ?_ | refine k2 ?_ | refine k3 ?_ | refine k4 ?_ | refine k6 ?_ | refine And.intro ?_ ?_ | (intro h; first | exact Bool.noConfusion h | exact nz _ h | exact nl h | (simp at h; done) | (simp at h; first | (exfalso; omega) | skip) | skip) | refine eqv_len_map ?_ | refine eqv_wrap (by omega) (by omega) ?_ | fail)
      all_goals first
        | exact ⟨(k + 1, o.place.room), ⟨by dsimp only; omega, htk (by omega) (by omega)⟩, by dsimp only; omega, back [0, 1] rfl rfl (by repeat' (first | exact trivial | exact rfl | refine kept_ob rfl ?_ | refine And.intro ?_ ?_)) (by repeat' (first | exact trivial | exact rfl | exact ren_get rfl | refine And.intro ?_ ?_))⟩
        | exact ⟨(k + 1, n), ⟨by dsimp only; omega, hlv (by omega)⟩, by dsimp only; omega, back [0, 1] rfl rfl (by repeat' (first | exact trivial | exact rfl | refine kept_ob rfl ?_ | refine And.intro ?_ ?_)) (by repeat' (first | exact trivial | exact rfl | exact ren_get rfl | refine And.intro ?_ ?_))⟩
    · obtain rfl : k = l.length := by omega
      rw [List.take_length, ← hsu] at hnk
      repeat' (first | (refine fh_ob ?_) | (refine idx_sl (k := i) (at_map hl) rfl ?_) | refine o1 ?_ | refine o2 ?_ | refine k1 ?_ | refine k2 ?_ | refine k3 ?_ | refine k8 ?_ | refine And.intro ?_ ?_ | (intro h; first | exact Bool.noConfusion h | exact nz _ h | exact nl h | (simp at h; done) | (simp at h; first | (exfalso; omega) | skip) | skip) | refine eqv_len_map ?_ | refine eqv_wrap (by omega) (by omega) ?_ | fail)
      all_goals first
        | exact ⟨(i + 1, n), ⟨by dsimp only; omega, hnk⟩, by dsimp only; omega, back [0, 1] rfl rfl (by repeat' (first | exact trivial | exact rfl | refine kept_ob rfl ?_ | refine And.intro ?_ ?_)) (by repeat' (first | exact trivial | exact rfl | exact ren_get rfl | refine And.intro ?_ ?_))⟩
  · obtain rfl : i = m.classes.length := by omega
    rw [List.take_length] at hnx
    by_cases hn : n < 0
    · have h1 := hn1 n hnx hn
      rw [h1]
      repeat' (first | (refine fv_sl ?_) | (refine fh_ob ?_) | refine o1 ?_ | refine o2 ?_ | refine k1 ?_ | refine k2 ?_ | refine k3 ?_ | refine k7 ?_ | refine k8 ?_ | refine And.intro ?_ ?_ | (intro h; first | exact Bool.noConfusion h | exact nz _ h | exact nl h | (simp at h; done) | (simp at h; first | (exfalso; omega) | skip) | skip) | refine eqv_len_map ?_ | fail)
      all_goals first
        | (exfalso; omega)
        | exact ret_sl rfl ⟨ALe.refl⟩ leq_down
    · have h2 := hn2 n hnx hn
      repeat' (first | (refine fv_sl ?_) | (refine fh_ob ?_) | ((refine o_app rfl rfl rfl rfl rfl rfl rfl rfl rfl rfl rfl (by rw [List.length_map]; omega) (by rw [List.length_map]; omega) ?_)) | refine o1 ?_ | refine o2 ?_ | refine k1 ?_ | refine k2 ?_ | refine k3 ?_ | refine k6 ?_ | refine k8 ?_ | refine And.intro ?_ ?_ | (intro h; first | exact Bool.noConfusion h | exact nz _ h | exact nl h | (simp at h; done) | (simp at h; first | (exfalso; omega) | skip) | skip) | refine eqv_len_map ?_ | fail)
      all_goals first
        | (exfalso; omega)
        | (refine ⟨t + 1, (List.getElem?_eq_some_iff.1 h2).1, by have := (List.getElem?_eq_some_iff.1 h2).1; omega, ?_⟩
           rw [htn n h2, hnl n h2, map_snoc, sl_app, ob_app]
           exact back [0, 3] rfl rfl (by repeat' (first | exact trivial | exact rfl | refine And.intro ?_ ?_)) (by repeat' (first | exact trivial | exact rfl | refine And.intro ?_ ?_)))
theorem c_used (m : Model) (hz : sizedP m) : PCall Tryz.prog 42 [ag m.cells] (fun r => r = .pv (.sl 1 ((roomsV m).map intRow))) := (c_used0 m hz).weak fun r k => ⟨_, k.le, rfl⟩
end Go.Proofs.YtihpjcmloecaaaaGreat.Cw
/-
  Symmetry, plain: exchanges of rooms compose.
-/
namespace Go.Proofs.YtihpjcmloecaaaaGreat.Cw
open Go Go.Cw Go.Proofs
set_option linter.unusedVariables false
set_option maxRecDepth 100000
theorem img_comp {l : List Opt} {i j : Nat} {r s : Int} (h : imgO l i r = some j) : imgO l j s = imgO l i s := by
  obtain ⟨o, ho⟩ : ∃ o, l[i]? = some o := by
    cases e : l[i]? with
    | some o => exact ⟨o, rfl⟩
    | none => unfold imgO at h; rw [e] at h; cases h
  have hj := img_lt h
  obtain ⟨q, hq⟩ := getE hj
  unfold imgO at h ⊢
  rw [ho] at h
  rw [ho, hq]
  dsimp only at h ⊢
  obtain ⟨o1, k1, k2⟩ := placed_iff.1 (sameP_mem.1 (List.mem_of_getElem? h)).2
  rw [hq] at k1; cases k1
  have h2 := sameP_at (placed_t hq rfl) hj
  rw [k2] at h2 ⊢
  have hnd := sameP_nodup (l := l) (p := withRoom o.place r) (n := l.length)
  have hK : (sameP l (withRoom o.place r) j).length = (sameP l o.place i).length := by
    obtain ⟨b1, e1⟩ := List.getElem?_eq_some_iff.1 h
    obtain ⟨b2, e2⟩ := List.getElem?_eq_some_iff.1 h2
    rcases Nat.lt_trichotomy (sameP l o.place i).length (sameP l (withRoom o.place r) j).length with h | h | h
    · exact absurd (e1.trans e2.symm) (List.pairwise_iff_getElem.1 hnd _ _ b1 b2 h)
    · exact h.symm
    · exact absurd (e2.trans e1.symm) (List.pairwise_iff_getElem.1 hnd _ _ b2 b1 h)
  rw [hK]; rfl
theorem img_room {l : List Opt} {i j : Nat} {r : Int} {q : Opt} (h : imgO l i r = some j) (hq : l[j]? = some q) : q.place.room = r := by
  unfold imgO at h
  split at h
  · obtain ⟨o1, k1, k2⟩ := placed_iff.1 (sameP_mem.1 (List.mem_of_getElem? h)).2
    rw [hq] at k1; cases k1
    rw [k2]; rfl
  · cases h
theorem exch_comp {x a b c : Int} (h1 : a ≠ b) (h2 : a ≠ c) (h3 : b ≠ c) : exch (exch (exch x a c) b c) a c = exch x a b := by
  unfold exch
  grind
theorem ok_comp {l : List Opt} {a b c : Int} (h1 : a ≠ b) (h2 : a ≠ c) (h3 : b ≠ c) (hac : imgsP l a c) (hbc : imgsP l b c) {i : Nat} (hi : i < l.length) :
    okO l a b i ∧ imN l a b i = imN l a c (imN l b c (imN l a c i)) := by
  obtain ⟨i1, o, q1, e1, e2, e3, e4⟩ := hac i hi
  have hi1 := (List.getElem?_eq_some_iff.1 e3).1
  obtain ⟨i2, o', q2, f1, f2, f3, f4⟩ := hbc i1 hi1
  rw [e3] at f2; cases f2
  have hi2 := (List.getElem?_eq_some_iff.1 f3).1
  obtain ⟨i3, o', q3, g1, g2, g3, g4⟩ := hac i2 hi2
  rw [f3] at g2; cases g2
  have n1 : imN l a c i = i1 := by unfold imN; rw [e1]; rfl
  have n2 : imN l b c i1 = i2 := by unfold imN; rw [f1]; rfl
  have n3 : imN l a c i2 = i3 := by unfold imN; rw [g1]; rfl
  rw [swap_of e2 rfl] at e1
  rw [swap_of e3 rfl] at f1
  rw [swap_of f3 rfl] at g1
  have r1 := img_room e1 e3
  have r2 := img_room f1 f3
  rw [img_comp f1, img_comp e1, r2, r1, exch_comp h1 h2 h3] at g1
  have hs : swapO l a b i = some i3 := by rw [swap_of e2 rfl]; exact g1
  refine ⟨⟨i3, o, q3, hs, e2, g3, e4.trans (f4.trans g4)⟩, ?_⟩
  rw [n1, n2, n3]
  unfold imN; rw [hs]; rfl
section
variable {m : Model} {a b c : Int}
theorem optC_perm {g : Load → Int} {x y : Count} (h1 : x.rule = y.rule) (h2 : x.most = y.most) (h3 : x.penalty = y.penalty) (h4 : x.loads.Perm y.loads) : optC g x = optC g y := by
  unfold optC
  rw [h1, h2, h3, (srt_eq totLd).2 (h4.map (optL g))]
theorem optC_norm {g : Load → Int} (x : Count) : optC g (optC Load.opt x) = optC g x := by
  refine optC_perm rfl rfl rfl ?_
  have : (optL Load.opt) = id := rfl
  show (srt ldC (x.loads.map (optL Load.opt))).Perm _
  rw [this, List.map_id]
  exact srt_perm _
theorem imLoad_comp (h1 : a ≠ b) (h2 : a ≠ c) (h3 : b ≠ c) (hac : allImg m a c) (hbc : allImg m b c) {x : Load} (hx : optionP m x.cls x.opt) :
    optL (imLoad m a b) x = optL (imLoad m a c) (optL (imLoad m b c) (optL (imLoad m a c) x)) := by
  obtain ⟨k1, k2, l, k3, k4⟩ := hx
  have hl := List.mem_of_getElem? k3
  have e : ∀ (d f : Int) (y : Load), y.cls = x.cls → imLoad m d f y = (imN l d f y.opt.toNat : Int) := fun d f y hy => by unfold imLoad; rw [hy, k3]
  have hc := (ok_comp h1 h2 h3 (hac l hl) (hbc l hl) (i := x.opt.toNat) (by omega)).2
  show (⟨x.cls, imLoad m a b x, x.weight⟩ : Load) = ⟨x.cls, imLoad m a c (optL (imLoad m b c) (optL (imLoad m a c) x)), x.weight⟩
  have e1 := e a b x rfl
  have e2 := e a c (optL (imLoad m b c) (optL (imLoad m a c) x)) rfl
  have e3 := e b c (optL (imLoad m a c) x) rfl
  have e4 := e a c x rfl
  have o1 : (optL (imLoad m a c) x).opt = (imN l a c x.opt.toNat : Int) := e4
  have o2 : (optL (imLoad m b c) (optL (imLoad m a c) x)).opt = (imN l b c (imN l a c x.opt.toNat) : Int) := by
    show imLoad m b c (optL (imLoad m a c) x) = _
    rw [e3, o1]; rfl
  rw [e1, e2, o2, hc]; rfl
theorem optC_comp (h1 : a ≠ b) (h2 : a ≠ c) (h3 : b ≠ c) (hac : allImg m a c) (hbc : allImg m b c) {x : Count} (hx : ∀ l ∈ x.loads, optionP m l.cls l.opt) :
    optC (imLoad m a b) x = optC (imLoad m a c) (optC (imLoad m b c) (optC (imLoad m a c) x)) := by
  have e : x.loads.map (optL (imLoad m a b)) = ((x.loads.map (optL (imLoad m a c))).map (optL (imLoad m b c))).map (optL (imLoad m a c)) := by
    rw [List.map_map, List.map_map]
    exact List.map_congr_left fun y hy => imLoad_comp h1 h2 h3 hac hbc (hx y hy)
  show (⟨x.rule, _, x.most, x.penalty⟩ : Count) = ⟨x.rule, _, x.most, x.penalty⟩
  congr 1
  rw [srt_eq totLd, e]
  refine List.Perm.map _ ?_
  show (List.map (optL (imLoad m b c)) _).Perm (srt ldC (List.map (optL (imLoad m b c)) (srt ldC _)))
  exact ((srt_perm _).symm.map _).trans (srt_perm _).symm
theorem swap_trans (hz : sizedP m) (hg : goodP m) (h1 : a ≠ b) (h2 : a ≠ c) (h3 : b ≠ c) (hac : swapP m a c) (hbc : swapP m b c) : swapP m a b := by
  obtain ⟨i1, e1, c1⟩ := hac
  obtain ⟨i2, e2, c2⟩ := hbc
  refine ⟨fun l hl i hi => (ok_comp h1 h2 h3 (i1 l hl) (i2 l hl) hi).1, fun p hp x y hx hy i hi k hk => ?_, ?_⟩
  · have hxm := List.mem_of_getElem? hx
    have hym := List.mem_of_getElem? hy
    rw [(ok_comp h1 h2 h3 (i1 x hxm) (i2 x hxm) hi).2, (ok_comp h1 h2 h3 (i1 y hym) (i2 y hym) hk).2]
    have a1 := (ok_imN (i1 x hxm i hi)).2
    have a2 := (ok_imN (i1 y hym k hk)).2
    have b1 := (ok_imN (i2 x hxm _ a1)).2
    have b2 := (ok_imN (i2 y hym _ a2)).2
    exact (e1 p hp x y hx hy i hi k hk).trans ((e2 p hp x y hx hy _ a1 _ a2).trans (e1 p hp x y hx hy _ b1 _ b2))
  · rw [cnt_iff] at c1 c2 ⊢
    have hm : m.counts.map (optC (imLoad m a b)) = ((m.counts.map (optC (imLoad m a c))).map (optC (imLoad m b c))).map (optC (imLoad m a c)) := by
      rw [List.map_map, List.map_map]
      exact List.map_congr_left fun x hx => optC_comp h1 h2 h3 i1 i2 fun l hl => (good_load hg hx hl).1
    have hN : ∀ g, (m.counts.map (optC Load.opt)).map (optC g) = m.counts.map (optC g) := fun g => by
      rw [List.map_map]
      exact List.map_congr_left fun x _ => optC_norm x
    rw [hm]
    have p1 := (c1.map (optC (imLoad m b c)))
    rw [hN] at p1
    have p2 := (p1.trans c2).map (optC (imLoad m a c))
    rw [hN] at p2
    exact p2.trans c1
end
end Go.Proofs.YtihpjcmloecaaaaGreat.Cw
/-
  Symmetry: the sets of rooms that can be exchanged, by the program.
-/
namespace Go.Proofs.YtihpjcmloecaaaaGreat.Cw
open Go Go.Cw Go.Proofs
set_option linter.unusedVariables false
set_option maxRecDepth 100000
set_option maxHeartbeats 8000000
noncomputable def swB (m : Model) (x b : Int) : Bool := pB (swapP m x b)
noncomputable def setsF (m : Model) : Nat → List Int → List (List Int)
  | 0, _ => []
  | _ + 1, [] => []
  | n + 1, x :: l => (if l.filter (swB m x) = [] then [] else [x :: l.filter (swB m x)]) ++ setsF m n (l.filter fun b => !swB m x b)
noncomputable def setsV (m : Model) : List (List Int) := if modelE m = 0 then setsF m (roomsV m).length (roomsV m) else []
theorem sets_zero {m : Model} : ∀ {n : Nat}, setsF m n [] = []
  | 0 => rfl
  | _ + 1 => rfl
theorem sets_fuel {m : Model} : ∀ {n k : Nat} {l : List Int}, l.length ≤ n → l.length ≤ k → setsF m n l = setsF m k l
  | n, k, [], _, _ => by rw [sets_zero, sets_zero]
  | 0, _, x :: l, h, _ => by simp at h
  | _, 0, x :: l, _, h => by simp at h
  | n + 1, k + 1, x :: l, h1, h2 => by
    unfold setsF
    have := List.length_filter_le (fun b => !swB m x b) l
    simp only [List.length_cons] at h1 h2
    rw [sets_fuel (n := n) (k := k) (by omega) (by omega)]
theorem filt_sum {α : Type} {p : α → Bool} : ∀ {l : List α}, (l.filter p).length + (l.filter fun x => !p x).length = l.length
  | [] => rfl
  | x :: l => by
    have ih := filt_sum (p := p) (l := l)
    cases h : p x <;> simp [h] <;> omega
def lstRow (l : List Int) : List PV := [.sl 1 (l.map intRow)]
def slS (x : Int) (F : List Int) : AV := match F with
  | [] => .clip 1 [intRow x]
  | _ :: _ => .ms 2 1 0 (F.length + 1)
def obS (x : Int) (F : List Int) : Option AObj := match F with
  | [] => none
  | _ :: _ => some ⟨3, 1, false, .p ((x :: F).map intRow)⟩
theorem clip_le {z : Nat} {xs : List (List PV)} : ALe (.clip z xs) (.pv (.sl z xs)) := fun I β w v h => by
  cases h with
  | clip h => exact .pv h
theorem c_Rooms0 (m : Model) (hl : Laid m) : PCall Tryz.prog 16 [ag m.cells] (fun r => Leq r (.pv (.sl 1 ((setsV m).map lstRow)))) := by
  have hv := c_valid m hl
  by_cases hok : modelE m = 0
  · have hz := model_sized hok
    have hg := model_good hok
    have hnu := c_numbers m hz
    have hVl := rooms_len hz
    have e : setsV m = setsF m (roomsV m).length (roomsV m) := if_pos hok
    rw [e]
    rw [hok] at hv
    refine acall_of tok mixed 56 rfl (fn := Tryz.f16) (c := Tryz.f16.body.getD .skip) (by kernel_rfl) (by kernel_rfl) (by kernel_rfl) rfl 0 rfl ?_
    repeat' (first | ((change vcFun _ _ _ _ _; refine call_frz rfl (by repeat' (first | trivial | refine And.intro ?_ ?_ | (show 0 + _ ≤ List.length _; simp))) ALeL.refl hnu ?_; rintro _ rfl)) | refine o1 ?_ | refine o2 ?_ | refine k1 ?_ | refine k2 ?_ | refine k3 ?_ | refine k4 ?_ | refine k6 ?_ | refine And.intro ?_ ?_ | (intro h; first | exact Bool.noConfusion h | exact nz _ h | exact nl h | (simp at h; done) | (simp at h; first | (exfalso; omega) | skip) | skip) | (change vcFun _ _ _ _ _; refine call_eq rfl (by repeat' (first | trivial | refine And.intro ?_ ?_ | (show 0 + _ ≤ List.length _; simp))) ALeL.refl (hv) rfl ?_) | fail)
    refine loop_for (fun x : List Int × List (List Int) => [(1, .ptr 0 4 0 0), (3, slP 1 1 (x.2.map lstRow)), (4, .pv (.sl 1 (x.1.map intRow)))])
      (fun x => [some ⟨29, 4, false, .box (pvs m.cells)⟩, obP 22 1 (x.2.map lstRow)])
      (fun x => x.1.length ≤ 576 ∧ x.2.length + x.1.length ≤ 576 ∧ x.2 ++ setsF m x.1.length x.1 = setsF m (roomsV m).length (roomsV m)) (fun x => x.1.length) (roomsV m, []) ⟨hVl, by simpa using hVl, rfl⟩ ?_ ?_
    · exact back [0, 1] rfl rfl (by repeat' (first | exact trivial | exact rfl | refine And.intro ?_ ?_)) (by repeat' (first | exact trivial | exact rfl | refine And.intro ?_ ?_))
    rintro ⟨L, OUT⟩ ⟨h1, h2, h3⟩
    dsimp only at h1 h2 h3 ⊢
    rcases L with _ | ⟨x, l⟩
    · rw [sets_zero, List.append_nil] at h3
      rw [← h3]
      repeat' (first | (refine fv_sl ?_) | (refine fh_ob ?_) | refine o1 ?_ | refine o2 ?_ | refine k1 ?_ | refine k2 ?_ | refine k3 ?_ | refine k7 ?_ | refine k8 ?_ | refine And.intro ?_ ?_ | (intro h; first | exact Bool.noConfusion h | exact nz _ h | exact nl h | (simp at h; done) | (simp at h; first | (exfalso; omega) | skip) | skip) | refine eqv_len_map ?_ | fail)
      exact ret_sl rfl ⟨ALe.refl⟩ leq_down
    · have hsl : ∀ n, (l.filter fun b => !swB m x b).length ≤ n → setsF m n (l.filter fun b => !swB m x b) = setsF m (l.filter fun b => !swB m x b).length (l.filter fun b => !swB m x b) := fun n hn => sets_fuel hn (Nat.le_refl _)
      have hln : l.length ≤ 575 := by simpa using h1
      have hdr : List.drop 1 (List.take (List.map intRow (x :: l)).length (List.map intRow (x :: l))) = l.map intRow := by rw [List.take_length]; rfl
      repeat' (first | (refine fh_ob ?_) | (refine ⟨1, (by simp), rfl, rfl, ?_⟩) | (refine ⟨1, (List.map intRow (x :: l)).length, rfl, rfl, (by simp), Nat.le_refl _, ?_⟩) | (refine eqv_to (l.map intRow) hdr ?_) | refine o1 ?_ | refine o2 ?_ | refine k1 ?_ | refine k2 ?_ | refine k3 ?_ | refine k4 ?_ | refine k6 ?_ | refine And.intro ?_ ?_ | (intro h; first | exact Bool.noConfusion h | exact nz _ h | exact nl h | (simp at h; done) | (simp at h; first | (exfalso; omega) | skip) | skip) | refine eqv_len_map ?_ | fail)
      refine loop_for (fun k : Nat => [(1, .ptr 0 4 0 0), (3, slP 1 1 (OUT.map lstRow)), (4, .pv (.sl 1 ((x :: l).map intRow))), (5, slS x ((l.take k).filter (swB m x))), (6, slP 3 1 (((l.take k).filter fun b => !swB m x b).map intRow)), (22, .pv (.sl 1 (l.map intRow))), (23, vint .i64 l.length), (24, vint .i64 k)])
        (fun k => [some ⟨29, 4, false, .box (pvs m.cells)⟩, obP 22 1 (OUT.map lstRow), obS x ((l.take k).filter (swB m x)), obP 3 1 (((l.take k).filter fun b => !swB m x b).map intRow)])
        (fun k => k ≤ l.length) (fun k => l.length - k) 0 (Nat.zero_le _) ?_ ?_
      · exact back [0, 1, 2, 3] rfl rfl (by repeat' (first | exact trivial | exact rfl | refine kept_ob rfl ?_ | refine And.intro ?_ ?_)) (by repeat' (first | exact trivial | exact rfl | exact ren_get rfl | refine And.intro ?_ ?_))
      intro k hk
      rcases Nat.lt_or_ge k l.length with hkl | hkg
      · obtain ⟨b, hb⟩ := getE hkl
        have hsw := c_swapM m x b hz hg
        have hFl : ((l.take k).filter (swB m x)).length ≤ 575 := Nat.le_trans (List.length_filter_le ..) (Nat.le_trans (List.length_take_le' ..) hln)
        have hGl : ((l.take k).filter fun b => !swB m x b).length ≤ 575 := Nat.le_trans (List.length_filter_le ..) (Nat.le_trans (List.length_take_le' ..) hln)
        have hF1 : (l.take (k + 1)).filter (swB m x) = if swB m x b then (l.take k).filter (swB m x) ++ [b] else (l.take k).filter (swB m x) := by
          rw [tk_snoc hb, List.filter_append]; by_cases h : swB m x b = true <;> simp [h]
        have hG1 : ((l.take (k + 1)).filter fun b => !swB m x b) = if swB m x b then ((l.take k).filter fun b => !swB m x b) else ((l.take k).filter fun b => !swB m x b) ++ [b] := by
          rw [tk_snoc hb, List.filter_append]; by_cases h : swB m x b = true <;> simp [h]
        generalize hFF : (l.take k).filter (swB m x) = F at *
        generalize hGG : ((l.take k).filter fun b => !swB m x b) = G at *
        by_cases hP : swapP m x b
        · have hS : swB m x b = true := pB_t hP
          rw [if_pos hS] at hF1 hG1
          rw [pB_t hP] at hsw
          rcases F with _ | ⟨a, F⟩
          · repeat' (first | (refine fh_ob ?_) | (refine idx_sl (k := k) (at_map hb) rfl ?_) | (refine idx_sl (k := 0) (r := intRow x) rfl rfl ?_) | ((change vcFunD _ _ _ _ _; refine callD_eq rfl (by repeat' (first | trivial | refine And.intro ?_ ?_ | (show 0 + _ ≤ List.length _; simp))) ALeL.refl hsw rfl ?_)) | (refine eqv_to (Rows.p ([x, b].map intRow)) rfl (eqv_to 2 rfl ?_)) | refine o1 ?_ | refine o2 ?_ | refine k1 ?_ | refine k2 ?_ | refine k3 ?_ | refine k4 ?_ | refine k6 ?_ | refine And.intro ?_ ?_ | refine o3 ?_ | refine o4 ?_ | (intro h; first | exact Bool.noConfusion h | exact nz _ h | exact nl h | (simp at h; done) | (simp at h; first | (exfalso; omega) | skip) | skip) | (refine (?_ : srcLen _ = rowsLen _); rfl) | exact Nat.le_of_ble_eq_true rfl | exact (by kernel_rfl : drawOk _ _ = true) | refine eqv_wrap (by omega) (by omega) ?_ | fail)
            refine ⟨k + 1, by omega, by omega, ?_⟩
            rw [hF1, hG1]
            exact back [0, 1, 5, 3] rfl rfl (by repeat' (first | exact trivial | exact rfl | refine kept_ob rfl ?_ | refine And.intro ?_ ?_)) (by repeat' (first | exact trivial | exact rfl | exact ren_get rfl | refine And.intro ?_ ?_))
          · repeat' (first | (refine fh_ob ?_) | (refine idx_sl (k := k) (at_map hb) rfl ?_) | (refine idx_sl (k := 0) (r := intRow x) rfl rfl ?_) | ((change vcFunD _ _ _ _ _; refine callD_eq rfl (by repeat' (first | trivial | refine And.intro ?_ ?_ | (show 0 + _ ≤ List.length _; simp))) ALeL.refl hsw rfl ?_)) | ((show rowsLen _ * _ ≤ _; simp [rowsLen] at *; omega)) | ((show rowsLen _ ≤ _; simp [rowsLen] at *; omega)) | refine o1 ?_ | refine o2 ?_ | refine k1 ?_ | refine k2 ?_ | refine k3 ?_ | refine k4 ?_ | refine k6 ?_ | refine And.intro ?_ ?_ | refine o3 ?_ | refine o4 ?_ | (intro h; first | exact Bool.noConfusion h | exact nz _ h | exact nl h | (simp at h; done) | (simp at h; first | (exfalso; omega) | skip) | skip) | (refine (?_ : srcLen _ = rowsLen _); rfl) | exact (by kernel_rfl : drawOk _ _ = true) | refine eqv_wrap (by omega) (by omega) ?_ | (refine (?_ : _ = rowsLen _); simp [rowsLen] <;> omega) | refine eqv_to _ (app_row rfl) (eqv_to _ app_len ?_) | fail)
            refine ⟨k + 1, by omega, by omega, ?_⟩
            rw [hF1, hG1]
            exact back [0, 1, 5, 3] rfl rfl (by repeat' (first | exact trivial | exact rfl | refine kept_ob rfl ?_ | refine And.intro ?_ ?_)) (by repeat' (first | exact trivial | exact rfl | exact ren_get rfl | refine And.intro ?_ ?_))
        · have hS : swB m x b = false := pB_f hP
          rw [if_neg (by rw [hS]; simp)] at hF1 hG1
          rw [pB_f hP] at hsw
          rcases F with _ | ⟨a, F⟩
          · repeat' (first | (refine fv_sl ?_) | (refine fh_ob ?_) | (refine idx_sl (k := k) (at_map hb) rfl ?_) | (refine idx_sl (k := 0) (r := intRow x) rfl rfl ?_) | ((change vcFunD _ _ _ _ _; refine callD_eq rfl (by repeat' (first | trivial | refine And.intro ?_ ?_ | (show 0 + _ ≤ List.length _; simp))) ALeL.refl hsw rfl ?_)) | ((refine o_app rfl rfl rfl rfl rfl rfl rfl rfl rfl rfl rfl (by rw [List.length_map]; omega) (by rw [List.length_map]; omega) ?_)) | refine o1 ?_ | refine o2 ?_ | refine k1 ?_ | refine k2 ?_ | refine k3 ?_ | refine k4 ?_ | refine k6 ?_ | refine And.intro ?_ ?_ | refine o3 ?_ | refine o4 ?_ | (intro h; first | exact Bool.noConfusion h | exact nz _ h | exact nl h | (simp at h; done) | (simp at h; first | (exfalso; omega) | skip) | skip) | exact (by kernel_rfl : drawOk _ _ = true) | refine eqv_wrap (by omega) (by omega) ?_ | fail)
            refine ⟨k + 1, by omega, by omega, ?_⟩
            rw [hF1, hG1, map_snoc, sl_app, ob_app]
            exact back [0, 1, 2, 5] rfl rfl (by repeat' (first | exact trivial | exact rfl | refine kept_ob rfl ?_ | refine And.intro ?_ ?_)) (by repeat' (first | exact trivial | exact rfl | exact ren_get rfl | refine And.intro ?_ ?_))
          · repeat' (first | (refine fv_sl ?_) | (refine fh_ob ?_) | (refine idx_sl (k := k) (at_map hb) rfl ?_) | (refine idx_sl (k := 0) (r := intRow x) rfl rfl ?_) | ((change vcFunD _ _ _ _ _; refine callD_eq rfl (by repeat' (first | trivial | refine And.intro ?_ ?_ | (show 0 + _ ≤ List.length _; simp))) ALeL.refl hsw rfl ?_)) | ((refine o_app rfl rfl rfl rfl rfl rfl rfl rfl rfl rfl rfl (by rw [List.length_map]; omega) (by rw [List.length_map]; omega) ?_)) | refine o1 ?_ | refine o2 ?_ | refine k1 ?_ | refine k2 ?_ | refine k3 ?_ | refine k4 ?_ | refine k6 ?_ | refine And.intro ?_ ?_ | refine o3 ?_ | refine o4 ?_ | (intro h; first | exact Bool.noConfusion h | exact nz _ h | exact nl h | (simp at h; done) | (simp at h; first | (exfalso; omega) | skip) | skip) | exact (by kernel_rfl : drawOk _ _ = true) | refine eqv_wrap (by omega) (by omega) ?_ | fail)
            refine ⟨k + 1, by omega, by omega, ?_⟩
            rw [hF1, hG1, map_snoc, sl_app, ob_app]
            exact back [0, 1, 2, 5] rfl rfl (by repeat' (first | exact trivial | exact rfl | refine kept_ob rfl ?_ | refine And.intro ?_ ?_)) (by repeat' (first | exact trivial | exact rfl | exact ren_get rfl | refine And.intro ?_ ?_))
      · obtain rfl : k = l.length := by omega
        rw [List.take_length]
        have hsum := filt_sum (p := swB m x) (l := l)
        have hst : setsF m (x :: l).length (x :: l) = (if l.filter (swB m x) = [] then [] else [x :: l.filter (swB m x)]) ++ setsF m (l.filter fun b => !swB m x b).length (l.filter fun b => !swB m x b) := by
          rw [← hsl l.length (List.length_filter_le ..)]; rfl
        rw [hst] at h3
        simp only [List.length_cons] at h1 h2
        generalize hFF : l.filter (swB m x) = F at *
        generalize hGG : (l.filter fun b => !swB m x b) = G at *
        refine forceH_in ?_
        rcases F with _ | ⟨a, F⟩
        · rw [if_pos rfl, List.nil_append] at h3
          refine ghost_seq (Γ' := [(1, .ptr 0 4 0 0), (3, slP 1 1 (OUT.map lstRow)), (5, .pv (.sl 1 [intRow x])), (6, .pv (.sl 1 (G.map intRow))), (22, .pv (.sl 1 (l.map intRow))), (23, vint .i64 l.length), (24, vint .i64 l.length)]) (H' := [some ⟨29, 4, false, .box (pvs m.cells)⟩, obP 22 1 (OUT.map lstRow)]) (Ghost.trans (Ghost.weak (s := 5) rfl clip_le) (Ghost.sl (s := 6) (id := 3) rfl rfl fun H' hl hH => back [0, 1] rfl rfl (And.intro (hH 0 (by decide)) (kept_ob (hH 1 (by decide)) trivial)) (by repeat' (first | exact trivial | exact rfl | exact ren_get rfl | refine And.intro ?_ ?_)))) ?_
          repeat' (first | refine o1 ?_ | refine o2 ?_ | refine k1 ?_ | refine k2 ?_ | refine k3 ?_ | refine k6 ?_ | refine k8 ?_ | refine And.intro ?_ ?_ | (intro h; first | exact Bool.noConfusion h | exact nz _ h | exact nl h | (simp at h; done) | (simp at h; first | (exfalso; omega) | skip) | skip) | refine eqv_zero ?_ | fail)
          all_goals first
            | (exfalso; omega)
            | exact ⟨(G, OUT), ⟨by dsimp only; simp at hsum; omega, by dsimp only; simp at hsum; omega, h3⟩, by dsimp only; simp at hsum ⊢; omega, back [0, 1] rfl rfl (by repeat' (first | exact trivial | exact rfl | refine kept_ob rfl ?_ | refine And.intro ?_ ?_)) (by repeat' (first | exact trivial | exact rfl | exact ren_get rfl | refine And.intro ?_ ?_))⟩
        · rw [if_neg (by simp)] at h3
          refine ghost_seq (Γ' := [(1, .ptr 0 4 0 0), (3, slP 1 1 (OUT.map lstRow)), (5, .pv (.sl 1 ((x :: a :: F).map intRow))), (6, .pv (.sl 1 (G.map intRow))), (22, .pv (.sl 1 (l.map intRow))), (23, vint .i64 l.length), (24, vint .i64 l.length)]) (H' := [some ⟨29, 4, false, .box (pvs m.cells)⟩, obP 22 1 (OUT.map lstRow)]) (Ghost.trans (Ghost.freeze (s := 5) rfl rfl (by repeat' (first | (show 0 + _ ≤ List.length _; simp)))) (Ghost.trans (Ghost.weak (s := 5) rfl (ALe.pv (whole_le (f := intRow) (l := x :: a :: F) (Nat.le_refl _)))) (Ghost.sl (s := 6) (id := 3) rfl rfl fun H' hl hH => back [0, 1] rfl rfl (And.intro (hH 0 (by decide)) (kept_ob (hH 1 (by decide)) trivial)) (by repeat' (first | exact trivial | exact rfl | exact ren_get rfl | refine And.intro ?_ ?_))))) ?_
          have hOl : OUT.length ≤ 576 := by omega
          repeat' (first | (refine fv_sl ?_) | (refine fh_ob ?_) | ((refine o_app rfl rfl rfl rfl rfl rfl rfl rfl rfl rfl rfl (by rw [List.length_map]; omega) (by rw [List.length_map]; omega) ?_)) | refine o1 ?_ | refine o2 ?_ | refine k1 ?_ | refine k2 ?_ | refine k3 ?_ | refine k8 ?_ | refine And.intro ?_ ?_ | (intro h; first | exact Bool.noConfusion h | exact nz _ h | exact nl h | (simp at h; done) | (simp at h; first | (exfalso; omega) | skip) | skip) | refine eqv_len_map ?_ | fail)
          all_goals first
            | (exfalso; omega)
            | (refine ⟨(G, OUT ++ [x :: a :: F]), ⟨by dsimp only; simp at hsum; omega, by dsimp only; simp at hsum ⊢; omega, by dsimp only; rw [List.append_assoc]; exact h3⟩, by dsimp only; simp at hsum ⊢; omega, ?_⟩
               dsimp only
               rw [map_snoc, sl_app, ob_app]
               exact back [0, 3] rfl rfl (by repeat' (first | exact trivial | exact rfl | refine And.intro ?_ ?_)) (by repeat' (first | exact trivial | exact rfl | refine And.intro ?_ ?_)))
  · have e : setsV m = [] := if_neg hok
    rw [e]
    generalize modelE m = E at hv hok
    refine acall_of tok mixed 56 rfl (fn := Tryz.f16) (c := Tryz.f16.body.getD .skip) (by kernel_rfl) (by kernel_rfl) (by kernel_rfl) rfl 0 rfl ?_
    repeat' (first | refine o1 ?_ | refine o2 ?_ | refine k1 ?_ | refine k2 ?_ | refine k3 ?_ | refine k7 ?_ | refine And.intro ?_ ?_ | (intro h; first | exact Bool.noConfusion h | exact nz _ h | exact nl h | (simp at h; done) | (simp at h; first | (exfalso; omega) | skip) | skip) | (change retOk _ _ _ _; refine ret_pure rfl trivial ?_) | (change vcFun _ _ _ _ _; refine call_eq rfl (by repeat' (first | trivial | refine And.intro ?_ ?_ | (show 0 + _ ≤ List.length _; simp))) ALeL.refl (hv) rfl ?_) | fail)
    all_goals first
      | (exfalso; omega)
      | exact ⟨ALe.pv PLe.nil⟩
theorem c_Rooms (m : Model) (hl : Laid m) : PCall Tryz.prog 16 [ag m.cells] (fun r => r = .pv (.sl 1 ((setsV m).map lstRow))) := (c_Rooms0 m hl).weak fun r k => ⟨_, k.le, rfl⟩
end Go.Proofs.YtihpjcmloecaaaaGreat.Cw
/-
  Symmetry: the sets of rooms that can be exchanged, by the reference.
-/
namespace Go.Proofs.YtihpjcmloecaaaaGreat.Cw
open Go Go.Cw Go.Proofs
set_option linter.unusedVariables false
set_option maxRecDepth 100000
set_option maxHeartbeats 8000000
theorem sw_iff {m : Model} {x b : Int} : swB m x b = true ↔ swapP m x b := by unfold swB; simp
theorem utk_skip {κ : Type} {p : κ → Bool} : ∀ {D : List Bool} {l : List κ}, D.length = l.length → (∀ (j : Nat) y, D[j]? = some true → l[j]? = some y → p y = false) → (utk D l).filter p = l.filter p
  | [], [], _, _ => rfl
  | [], _ :: _, h, _ => by simp at h
  | _ :: _, [], h, _ => by simp at h
  | true :: D, y :: l, h, hp => by
    have h0 := hp 0 y rfl rfl
    have ih := utk_skip (p := p) (D := D) (l := l) (by simpa using h) fun j z h1 h2 => hp (j + 1) z (by simpa using h1) (by simpa using h2)
    show (utk D l).filter p = _
    rw [ih, List.filter_cons, h0]; rfl
  | false :: D, y :: l, h, hp => by
    have ih := utk_skip (p := p) (D := D) (l := l) (by simpa using h) fun j z h1 h2 => hp (j + 1) z (by simpa using h1) (by simpa using h2)
    show (y :: utk D l).filter p = _
    rw [List.filter_cons, List.filter_cons, ih]
theorem utk_more {κ : Type} {p : κ → Bool} : ∀ {D E : List Bool} {l : List κ}, D.length = l.length → E.length = l.length → (∀ (j : Nat) d y, D[j]? = some d → l[j]? = some y → E[j]? = some (d || p y)) → utk E l = (utk D l).filter fun x => !p x
  | [], [], [], _, _, _ => rfl
  | [], _, _ :: _, h, _, _ => by simp at h
  | _ :: _, _, [], h, _, _ => by simp at h
  | _, [], _ :: _, _, h, _ => by simp at h
  | _, _ :: _, [], _, h, _ => by simp at h
  | d :: D, e :: E, y :: l, h1, h2, hp => by
    have ih := utk_more (p := p) (D := D) (E := E) (l := l) (by simpa using h1) (by simpa using h2) fun j z w k1 k2 => by
      have := hp (j + 1) z w (by simpa using k1) (by simpa using k2)
      simpa using this
    have h0 := hp 0 d y rfl rfl
    simp only [List.getElem?_cons_zero, Option.some.injEq] at h0
    subst h0
    cases d <;> cases hpy : p y <;> simp [utk, ih, hpy]
noncomputable def dnL (m : Model) (V : List Int) (x : Int) (i k : Nat) (D : List Bool) : List Bool := D.mapIdx fun j d => d || (decide (i < j ∧ j < k) && swB m x (V.getD j 0))
section
variable {m : Model} {V : List Int} {x : Int} {i k : Nat} {D : List Bool}
theorem dn_len : (dnL m V x i k D).length = D.length := List.length_mapIdx
theorem dn_get {j : Nat} {d : Bool} (h : D[j]? = some d) : (dnL m V x i k D)[j]? = some (d || (decide (i < j ∧ j < k) && swB m x (V.getD j 0))) := by
  unfold dnL; rw [List.getElem?_mapIdx, h]; rfl
theorem dn_none {j : Nat} (h : D[j]? = none) : (dnL m V x i k D)[j]? = none := by
  unfold dnL; rw [List.getElem?_mapIdx, h]; rfl
theorem dn_start : dnL m V x i (i + 1) D = D := by
  apply List.ext_getElem?
  intro j
  cases h : D[j]? with
  | none => rw [dn_none h]
  | some d =>
    rw [dn_get h]
    have : decide (i < j ∧ j < i + 1) = false := decide_eq_false (by omega)
    rw [this]; simp
theorem dn_t {b : Int} (hb : V[k]? = some b) (hk : i < k) (hs : swB m x b = true) : dnL m V x i (k + 1) D = (dnL m V x i k D).set k true := by
  apply List.ext_getElem?
  intro j
  rw [List.getElem?_set]
  cases h : D[j]? with
  | none =>
    rw [dn_none h]
    split
    · rename_i e; subst e
      rw [if_neg]
      rw [dn_len]; have := List.getElem?_eq_none_iff.1 h; omega
    · rw [dn_none h]
  | some d =>
    rw [dn_get h]
    split
    · rename_i e; subst e
      rw [if_pos (by rw [dn_len]; exact (List.getElem?_eq_some_iff.1 h).1)]
      have e1 : decide (i < k ∧ k < k + 1) = true := decide_eq_true ⟨hk, by omega⟩
      have e2 : V.getD k 0 = b := by rw [List.getD_eq_getElem?_getD, hb]; rfl
      rw [e1, e2, hs]; simp
    · rename_i e
      rw [dn_get h]
      have e1 : decide (i < j ∧ j < k + 1) = decide (i < j ∧ j < k) := by
        congr 1; exact propext ⟨fun h => ⟨h.1, by omega⟩, fun h => ⟨h.1, by omega⟩⟩
      rw [e1]
theorem dn_f {b : Int} (hb : V[k]? = some b) (hs : swB m x b = false) : dnL m V x i (k + 1) D = dnL m V x i k D := by
  apply List.ext_getElem?
  intro j
  cases h : D[j]? with
  | none => rw [dn_none h, dn_none h]
  | some d =>
    rw [dn_get h, dn_get h]
    by_cases e : j = k
    · subst e
      have e2 : V.getD j 0 = b := by rw [List.getD_eq_getElem?_getD, hb]; rfl
      rw [e2, hs]; simp
    · have e1 : decide (i < j ∧ j < k + 1) = decide (i < j ∧ j < k) := by
        congr 1; exact propext ⟨fun h => ⟨h.1, by omega⟩, fun h => ⟨h.1, by omega⟩⟩
      rw [e1]
end
structure Rms (m : Model) (V : List Int) (i : Nat) (D : List Bool) (OUT : List (List Int)) : Prop where
  len : D.length = V.length
  out : OUT ++ setsF m (utk (D.drop i) (V.drop i)).length (utk (D.drop i) (V.drop i)) = setsF m V.length V
  many : OUT.length ≤ i
  done : ∀ k, i ≤ k → D[k]? = some true → ∃ (j : Nat) (y z : Int), j < i ∧ V[j]? = some y ∧ V[k]? = some z ∧ swB m y z = true ∧ ∀ (k' : Nat) (w : Int), j < k' → V[k']? = some w → swB m y w = true → D[k']? = some true
section
variable {m : Model} {V : List Int} {i : Nat} {D : List Bool} {OUT : List (List Int)}
theorem utk_all {κ : Type} : ∀ {l : List κ}, utk (List.replicate l.length false) l = l
  | [] => rfl
  | x :: l => by
    have ih := utk_all (l := l)
    show x :: utk (List.replicate l.length false) l = _
    rw [ih]
theorem Rms.start : Rms m V 0 (List.replicate V.length false) [] := by
  refine ⟨List.length_replicate, ?_, Nat.le_refl _, fun k _ h => ?_⟩
  · rw [List.drop_zero, List.drop_zero, utk_all, List.nil_append]
  · have := List.getElem?_replicate (n := V.length) (a := false) (i := k)
    rw [this] at h
    split at h <;> simp at h
theorem Rms.skip {x : Int} (h : Rms m V i D OUT) (hx : V[i]? = some x) (hd : D[i]? = some true) : Rms m V (i + 1) D OUT := by
  refine ⟨h.len, ?_, by have := h.many; omega, fun k hk hkd => ?_⟩
  · have := h.out
    rw [drop_at hx, drop_at hd] at this
    exact this
  · obtain ⟨j, y, z, h1, h2⟩ := h.done k (by omega) hkd
    exact ⟨j, y, z, by omega, h2⟩
theorem Rms.take {x : Int} (hz : sizedP m) (hg : goodP m) (hV : V.Pairwise fun a b => a < b) (h : Rms m V i D OUT) (hx : V[i]? = some x) (hd : D[i]? = some false) :
    Rms m V (i + 1) (dnL m V x i V.length D) (OUT ++ if (V.drop (i + 1)).filter (swB m x) = [] then [] else [x :: (V.drop (i + 1)).filter (swB m x)]) := by
  have hlt : ∀ {j k : Nat} {y z : Int}, j < k → V[j]? = some y → V[k]? = some z → y < z := fun {j k y z} hjk h1 h2 => by
    obtain ⟨a1, rfl⟩ := List.getElem?_eq_some_iff.1 h1
    obtain ⟨a2, rfl⟩ := List.getElem?_eq_some_iff.1 h2
    exact List.pairwise_iff_getElem.1 hV j k a1 a2 hjk
  have hlen : (D.drop (i + 1)).length = (V.drop (i + 1)).length := by rw [List.length_drop, List.length_drop, h.len]
  have e1 : (utk (D.drop (i + 1)) (V.drop (i + 1))).filter (swB m x) = (V.drop (i + 1)).filter (swB m x) := by
    refine utk_skip hlen fun j y hj hy => ?_
    rw [List.getElem?_drop] at hj hy
    obtain ⟨j', y', z', k1, k2, k3, k4, k5⟩ := h.done (i + 1 + j) (by omega) hj
    rw [hy] at k3; cases k3
    cases hs : swB m x y with
    | false => rfl
    | true =>
      exfalso
      have t1 : swapP m y' y := sw_iff.1 k4
      have t2 : swapP m x y := sw_iff.1 hs
      have l1 := hlt k1 k2 hx
      have l2 := hlt (by omega : i < i + 1 + j) hx hy
      have t3 := swap_trans hz hg (by omega) (by omega) (by omega) t1 t2
      have := k5 i x k1 hx (sw_iff.2 t3)
      rw [hd] at this; cases this
  have e2 : utk ((dnL m V x i V.length D).drop (i + 1)) (V.drop (i + 1)) = (utk (D.drop (i + 1)) (V.drop (i + 1))).filter fun b => !swB m x b := by
    refine utk_more hlen (by rw [List.length_drop, dn_len, List.length_drop, h.len]) fun j d y h1 h2 => ?_
    rw [List.getElem?_drop] at h1 h2 ⊢
    rw [dn_get h1]
    have a1 : decide (i < i + 1 + j ∧ i + 1 + j < V.length) = true := decide_eq_true ⟨by omega, (List.getElem?_eq_some_iff.1 h2).1⟩
    have a2 : V.getD (i + 1 + j) 0 = y := by rw [List.getD_eq_getElem?_getD, h2]; rfl
    rw [a1, a2]; simp
  refine ⟨by rw [dn_len, h.len], ?_, ?_, fun k hk hkd => ?_⟩
  · have ho := h.out
    rw [drop_at hx, drop_at hd] at ho
    have hu : utk (false :: D.drop (i + 1)) (x :: V.drop (i + 1)) = x :: utk (D.drop (i + 1)) (V.drop (i + 1)) := rfl
    rw [hu] at ho
    rw [e2, ← ho, ← e1]
    generalize utk (D.drop (i + 1)) (V.drop (i + 1)) = R
    rw [List.append_assoc]
    congr 1
    show _ = (if R.filter (swB m x) = [] then [] else [x :: R.filter (swB m x)]) ++ setsF m R.length (R.filter fun b => !swB m x b)
    rw [sets_fuel (n := R.length) (List.length_filter_le ..) (Nat.le_refl _)]
  · have := h.many
    split <;> simp <;> omega
  · obtain ⟨d, hdk⟩ := getE (show k < D.length by have := (List.getElem?_eq_some_iff.1 hkd).1; rw [dn_len] at this; exact this)
    obtain ⟨z, hz'⟩ := getE (show k < V.length by rw [← h.len]; exact (List.getElem?_eq_some_iff.1 hdk).1)
    rw [dn_get hdk] at hkd
    have hmono : ∀ k', D[k']? = some true → (dnL m V x i V.length D)[k']? = some true := fun k' hk' => by rw [dn_get hk']; rfl
    cases d with
    | true =>
      obtain ⟨j, y, z2, h1, h2, h3, h4, h5⟩ := h.done k (by omega) hdk
      exact ⟨j, y, z2, by omega, h2, h3, h4, fun k' w a1 a2 a3 => hmono k' (h5 k' w a1 a2 a3)⟩
    | false =>
      have a2 : V.getD k 0 = z := by rw [List.getD_eq_getElem?_getD, hz']; rfl
      rw [a2] at hkd
      simp at hkd
      refine ⟨i, x, z, by omega, hx, hz', hkd.2, fun k' w b1 b2 b3 => ?_⟩
      obtain ⟨d', hd'⟩ := getE (show k' < D.length by rw [h.len]; exact (List.getElem?_eq_some_iff.1 b2).1)
      have c2 : V.getD k' 0 = w := by rw [List.getD_eq_getElem?_getD, b2]; rfl
      have c1 : decide (i < k' ∧ k' < V.length) = true := decide_eq_true ⟨b1, (List.getElem?_eq_some_iff.1 b2).1⟩
      rw [dn_get hd', c1, c2, b3]; simp
theorem Rms.all (h : Rms m V V.length D OUT) : OUT = setsF m V.length V := by
  have := h.out
  rw [List.drop_length, List.drop_of_length_le (by rw [h.len]; exact Nat.le_refl _)] at this
  have e : utk ([] : List Bool) ([] : List Int) = [] := rfl
  rw [e, sets_zero, List.append_nil] at this
  exact this
end
end Go.Proofs.YtihpjcmloecaaaaGreat.Cw
/-
  Symmetry: Rooms by the reference.
-/
namespace Go.Proofs.YtihpjcmloecaaaaGreat.Cw
open Go Go.Cw Go.Proofs
set_option linter.unusedVariables false
set_option maxRecDepth 100000
set_option maxHeartbeats 8000000
theorem sub_next {V : List Int} {i k : Nat} {b : Int} (hb : V[k]? = some b) (hk : i < k) : (V.take (k + 1)).drop (i + 1) = (V.take k).drop (i + 1) ++ [b] := by
  have hkl := (List.getElem?_eq_some_iff.1 hb).1
  rw [tk_snoc hb, List.drop_append_of_le_length (by rw [List.length_take]; omega)]
theorem c_rRooms0 (m : Model) (hl : Laid m) : PCall Tryz.prog 17 [ag m.cells] (fun r => Leq r (.pv (.sl 1 ((setsV m).map lstRow)))) := by
  have hv := c_rvalid m hl
  by_cases hok : modelE m = 0
  · have hz := model_sized hok
    have hg := model_good hok
    have hus := c_used m hz
    have hVl := rooms_len hz
    have hVs := rooms_spec m
    have e : setsV m = setsF m (roomsV m).length (roomsV m) := if_pos hok
    have hst := Rms.start (m := m) (V := roomsV m)
    rw [e]
    rw [hok] at hv
    generalize roomsV m = V at *
    have hex : ∀ {i k : Nat} {x b : Int}, i < k → V[i]? = some x → V[k]? = some b → pB (exP m x b) = swB m x b := fun {i k x b} hik hx hb => by
      have h1 := ((hVs.1 x).1 (List.mem_of_getElem? hx)).1
      have h2 := ((hVs.1 b).1 (List.mem_of_getElem? hb)).1
      obtain ⟨a1, a2⟩ := List.getElem?_eq_some_iff.1 hx
      obtain ⟨b1, b2⟩ := List.getElem?_eq_some_iff.1 hb
      have h3 := List.pairwise_iff_getElem.1 hVs.2 i k a1 b1 hik
      rw [a2, b2] at h3
      exact pB_iff ⟨fun h => h.2.2.2.2, fun h => ⟨hok, by omega, h1, h2, h⟩⟩
    refine acall_of tok mixed 74 rfl (fn := Tryz.f17) (c := Tryz.f17.body.getD .skip) (by kernel_rfl) (by kernel_rfl) (by kernel_rfl) rfl 0 rfl ?_
    repeat' (first | ((change vcFun _ _ _ _ _; refine call_frz rfl (by repeat' (first | trivial | refine And.intro ?_ ?_ | (show 0 + _ ≤ List.length _; simp))) ALeL.refl hus ?_; rintro _ rfl)) | (refine ⟨V.length, V.length, rfl, rfl, Nat.le_refl _, (by omega), (by omega), ?_⟩) | (refine eqv_to ((List.replicate V.length false).map boolRow) (by rw [List.map_replicate]; rfl) ?_) | refine o1 ?_ | refine o2 ?_ | refine k1 ?_ | refine k2 ?_ | refine k3 ?_ | refine k4 ?_ | refine k6 ?_ | refine And.intro ?_ ?_ | (intro h; first | exact Bool.noConfusion h | exact nz _ h | exact nl h | (simp at h; done) | (simp at h; first | (exfalso; omega) | skip) | skip) | exact (by kernel_rfl : drawOk _ _ = true) | refine eqv_len_map ?_ | (change vcFun _ _ _ _ _; refine call_eq rfl (by repeat' (first | trivial | refine And.intro ?_ ?_ | (show 0 + _ ≤ List.length _; simp))) ALeL.refl (hv) rfl ?_) | fail)
    refine loop_for (fun x : Nat × List Bool × List (List Int) => [(1, .ptr 0 4 0 0), (3, .pv (.sl 1 (V.map intRow))), (4, .ms 1 1 0 V.length), (5, slP 2 1 (x.2.2.map lstRow)), (6, vint .i64 x.1)])
      (fun x => [some ⟨29, 4, false, .box (pvs m.cells)⟩, some ⟨4, 1, false, .p (x.2.1.map boolRow)⟩, obP 22 1 (x.2.2.map lstRow)])
      (fun x => x.1 ≤ V.length ∧ Rms m V x.1 x.2.1 x.2.2) (fun x => V.length - x.1) (0, List.replicate V.length false, []) ⟨Nat.zero_le _, hst⟩ ?_ ?_
    · exact back [0, 1, 2] rfl rfl (by repeat' (first | exact trivial | exact rfl | refine And.intro ?_ ?_)) (by repeat' (first | exact trivial | exact rfl | refine And.intro ?_ ?_))
    rintro ⟨i, D, OUT⟩ ⟨hi, hR⟩
    dsimp only at hi hR ⊢
    have hDl := hR.len
    have hOl : OUT.length ≤ 576 := by have := hR.many; omega
    rcases Nat.lt_or_ge i V.length with hlt | hge
    · obtain ⟨x, hx⟩ := getE hlt
      obtain ⟨d, hd⟩ := getE (show i < D.length by omega)
      have hdr : (D.map boolRow)[i]? = some (boolRow d) := at_map hd
      cases d with
      | true =>
        have hsk := hR.skip hx hd
        repeat' (first | (refine fh_ob ?_) | (refine idx_ms i rfl hlt ?_) | (refine ⟨_, hdr, ?_⟩) | refine o1 ?_ | refine o2 ?_ | refine k1 ?_ | refine k2 ?_ | refine k3 ?_ | refine k4 ?_ | refine k6 ?_ | refine k8 ?_ | refine And.intro ?_ ?_ | (intro h; first | exact Bool.noConfusion h | exact nz _ h | exact nl h | (simp at h; done) | (simp at h; first | (exfalso; omega) | skip) | skip) | refine eqv_len_map ?_ | refine eqv_zero ?_ | refine eqv_wrap (by omega) (by omega) ?_ | fail)
        all_goals first
          | exact ⟨(i + 1, D, OUT), ⟨by dsimp only; omega, hsk⟩, by dsimp only; omega, back [0, 1, 2] rfl rfl (by repeat' (first | exact trivial | exact rfl | refine kept_ob rfl ?_ | refine And.intro ?_ ?_)) (by repeat' (first | exact trivial | exact rfl | exact ren_get rfl | refine And.intro ?_ ?_))⟩
      | false =>
        have htk := hR.take hz hg hVs.2 hx hd
        repeat' (first | (refine fh_ob ?_) | (refine idx_ms i rfl hlt ?_) | (refine ⟨_, hdr, ?_⟩) | (refine idx_sl (k := i) (at_map hx) rfl ?_) | refine o1 ?_ | refine o2 ?_ | refine k1 ?_ | refine k2 ?_ | refine k3 ?_ | refine k4 ?_ | refine k6 ?_ | refine And.intro ?_ ?_ | (intro h; first | exact Bool.noConfusion h | exact nz _ h | exact nl h | (simp at h; done) | (simp at h; first | (exfalso; omega) | skip) | skip) | refine eqv_len_map ?_ | refine eqv_zero ?_ | refine eqv_wrap (by omega) (by omega) ?_ | fail)
        refine loop_for (fun k : Nat => [(1, .ptr 0 4 0 0), (3, .pv (.sl 1 (V.map intRow))), (4, .ms 1 1 0 V.length), (5, slP 2 1 (OUT.map lstRow)), (6, vint .i64 i), (7, .ms 3 1 0 ((((V.take k).drop (i + 1)).filter (swB m x)).length + 1)), (8, vint .i64 k)])
          (fun k => [some ⟨29, 4, false, .box (pvs m.cells)⟩, some ⟨4, 1, false, .p ((dnL m V x i k D).map boolRow)⟩, obP 22 1 (OUT.map lstRow), some ⟨3, 1, false, .p ((x :: ((V.take k).drop (i + 1)).filter (swB m x)).map intRow)⟩])
          (fun k => i + 1 ≤ k ∧ k ≤ V.length) (fun k => V.length - k) (i + 1) ⟨Nat.le_refl _, hlt⟩ ?_ ?_
        · rw [dn_start, show (V.take (i + 1)).drop (i + 1) = [] from List.drop_of_length_le (by rw [List.length_take]; omega)]
          exact back [0, 1, 2, 3] rfl rfl (by repeat' (first | exact trivial | exact rfl | refine kept_ob rfl ?_ | refine And.intro ?_ ?_)) (by repeat' (first | exact trivial | exact rfl | exact ren_get rfl | refine And.intro ?_ ?_))
        intro k ⟨hk1, hk2⟩
        rcases Nat.lt_or_ge k V.length with hkl | hkg
        · obtain ⟨b, hb⟩ := getE hkl
          have hsw := c_rSwap m x b hl
          rw [hex (by omega) hx hb] at hsw
          have hF := sub_next hb (by omega : i < k)
          have hFl : (((V.take k).drop (i + 1)).filter (swB m x)).length ≤ 576 := by
            have h1 := List.length_filter_le (swB m x) ((V.take k).drop (i + 1))
            rw [List.length_drop, List.length_take] at h1; omega
          have hDk : (dnL m V x i k D).length = V.length := by rw [dn_len]; exact hDl
          cases hs : swB m x b with
          | true =>
            have hdn := dn_t (D := D) hb (by omega : i < k) hs
            rw [hs] at hsw
            have hF1 : ((V.take (k + 1)).drop (i + 1)).filter (swB m x) = ((V.take k).drop (i + 1)).filter (swB m x) ++ [b] := by rw [hF, List.filter_append]; simp [hs]
            generalize ((V.take k).drop (i + 1)).filter (swB m x) = F at *
            generalize dnL m V x i k D = DK at *
            obtain ⟨t, ht⟩ := getE (show k < DK.length by omega)
            have htr : (DK.map boolRow)[k]? = some (boolRow t) := at_map ht
            have hsr : (DK.map boolRow).set k [.val (.bool true)] = (DK.set k true).map boolRow := by rw [List.map_set]; rfl
            repeat' (first | (refine fh_ob ?_) | (refine idx_sl (k := i) (at_map hx) rfl ?_) | (refine idx_sl (k := k) (at_map hb) rfl ?_) | ((change vcFunD _ _ _ _ _; refine callD_eq rfl (by repeat' (first | trivial | refine And.intro ?_ ?_ | (show 0 + _ ≤ List.length _; simp))) ALeL.refl hsw rfl ?_)) | (refine idx_ms k rfl hkl ?_) | (refine ⟨_, htr, ?_⟩) | (refine eqv_to _ hsr ?_) | ((show rowsLen _ * _ ≤ _; simp [rowsLen] at *; omega)) | ((show rowsLen _ ≤ _; simp [rowsLen] at *; omega)) | refine o1 ?_ | refine o2 ?_ | refine k1 ?_ | refine k2 ?_ | refine k3 ?_ | refine k4 ?_ | refine k6 ?_ | refine And.intro ?_ ?_ | refine o3 ?_ | refine o4 ?_ | (intro h; first | exact Bool.noConfusion h | exact nz _ h | exact nl h | (simp at h; done) | (simp at h; first | (exfalso; omega) | skip) | skip) | (refine (?_ : srcLen _ = rowsLen _); rfl) | exact Nat.le_of_ble_eq_true rfl | exact (by kernel_rfl : drawOk _ _ = true) | refine eqv_len_map ?_ | refine eqv_zero ?_ | refine eqv_wrap (by omega) (by omega) ?_ | (refine (?_ : _ = rowsLen _); simp [rowsLen] <;> omega) | refine eqv_to _ (app_row rfl) (eqv_to _ app_len ?_) | fail)
            refine ⟨k + 1, ⟨by omega, by omega⟩, by omega, ?_⟩
            rw [hdn, hF1]
            exact back [0, 1, 2, 5] rfl rfl (by repeat' (first | exact trivial | exact rfl | refine kept_ob rfl ?_ | refine And.intro ?_ ?_)) (by repeat' (first | exact trivial | exact rfl | exact ren_get rfl | refine And.intro ?_ ?_))
          | false =>
            have hdn := dn_f (D := D) (i := i) hb hs
            rw [hs] at hsw
            have hF1 : ((V.take (k + 1)).drop (i + 1)).filter (swB m x) = ((V.take k).drop (i + 1)).filter (swB m x) := by rw [hF, List.filter_append]; simp [hs]
            repeat' (first | (refine fh_ob ?_) | (refine idx_sl (k := i) (at_map hx) rfl ?_) | (refine idx_sl (k := k) (at_map hb) rfl ?_) | ((change vcFunD _ _ _ _ _; refine callD_eq rfl (by repeat' (first | trivial | refine And.intro ?_ ?_ | (show 0 + _ ≤ List.length _; simp))) ALeL.refl hsw rfl ?_)) | refine o1 ?_ | refine o2 ?_ | refine k1 ?_ | refine k2 ?_ | refine k3 ?_ | refine k4 ?_ | refine k6 ?_ | refine And.intro ?_ ?_ | refine o3 ?_ | refine o4 ?_ | (intro h; first | exact Bool.noConfusion h | exact nz _ h | exact nl h | (simp at h; done) | (simp at h; first | (exfalso; omega) | skip) | skip) | exact (by kernel_rfl : drawOk _ _ = true) | refine eqv_len_map ?_ | refine eqv_wrap (by omega) (by omega) ?_ | fail)
            all_goals first
              | (refine ⟨k + 1, ⟨by omega, by omega⟩, by omega, ?_⟩
                 rw [hdn, hF1]
                 exact back [0, 1, 2, 3] rfl rfl (by repeat' (first | exact trivial | exact rfl | refine kept_ob rfl ?_ | refine And.intro ?_ ?_)) (by repeat' (first | exact trivial | exact rfl | exact ren_get rfl | refine And.intro ?_ ?_)))
        · obtain rfl : k = V.length := by omega
          rw [List.take_length]
          generalize (V.drop (i + 1)).filter (swB m x) = F at *
          generalize dnL m V x i V.length D = DK at *
          refine forceH_in ?_
          refine ghost_seq (Γ' := [(1, .ptr 0 4 0 0), (3, .pv (.sl 1 (V.map intRow))), (4, .ms 1 1 0 V.length), (5, slP 2 1 (OUT.map lstRow)), (6, vint .i64 i), (7, .pv (.sl 1 ((x :: F).map intRow))), (8, vint .i64 V.length)]) (H' := [some ⟨29, 4, false, .box (pvs m.cells)⟩, some ⟨4, 1, false, .p (DK.map boolRow)⟩, obP 22 1 (OUT.map lstRow)]) (Ghost.trans (Ghost.freeze (s := 7) rfl rfl (by repeat' (first | (show 0 + _ ≤ List.length _; simp)))) (Ghost.trans (Ghost.weak (s := 7) rfl (ALe.pv (whole_le (f := intRow) (l := x :: F) (Nat.le_refl _)))) (back [0, 1, 2] rfl rfl (by repeat' (first | exact trivial | exact rfl | refine kept_ob rfl ?_ | refine And.intro ?_ ?_)) (by repeat' (first | exact trivial | exact rfl | exact ren_get rfl | refine And.intro ?_ ?_))))) ?_
          rcases F with _ | ⟨a, F⟩
          · repeat' (first | refine o1 ?_ | refine o2 ?_ | refine k1 ?_ | refine k2 ?_ | refine k3 ?_ | refine k6 ?_ | refine k8 ?_ | refine And.intro ?_ ?_ | (intro h; first | exact Bool.noConfusion h | exact nz _ h | exact nl h | (simp at h; done) | (simp at h; first | (exfalso; omega) | skip) | skip) | refine eqv_len_map ?_ | refine eqv_wrap (by omega) (by omega) ?_ | fail)
            all_goals first
              | (exfalso; omega)
              | exact ⟨(i + 1, DK, OUT), ⟨by dsimp only; omega, by simpa using htk⟩, by dsimp only; omega, back [0, 1, 2] rfl rfl (by repeat' (first | exact trivial | exact rfl | refine kept_ob rfl ?_ | refine And.intro ?_ ?_)) (by repeat' (first | exact trivial | exact rfl | exact ren_get rfl | refine And.intro ?_ ?_))⟩
          · repeat' (first | (refine fv_sl ?_) | (refine fh_ob ?_) | ((refine o_app rfl rfl rfl rfl rfl rfl rfl rfl rfl rfl rfl (by rw [List.length_map]; omega) (by rw [List.length_map]; omega) ?_)) | refine o1 ?_ | refine o2 ?_ | refine k1 ?_ | refine k2 ?_ | refine k3 ?_ | refine k8 ?_ | refine And.intro ?_ ?_ | (intro h; first | exact Bool.noConfusion h | exact nz _ h | exact nl h | (simp at h; done) | (simp at h; first | (exfalso; omega) | skip) | skip) | refine eqv_len_map ?_ | refine eqv_wrap (by omega) (by omega) ?_ | fail)
            all_goals first
              | (exfalso; omega)
              | (refine ⟨(i + 1, DK, OUT ++ [x :: a :: F]), ⟨by dsimp only; omega, by simpa using htk⟩, by dsimp only; omega, ?_⟩
                 dsimp only
                 rw [map_snoc, sl_app, ob_app]
                 exact back [0, 1, 4] rfl rfl (by repeat' (first | exact trivial | exact rfl | refine And.intro ?_ ?_)) (by repeat' (first | exact trivial | exact rfl | refine And.intro ?_ ?_)))
    · obtain rfl : i = V.length := by omega
      rw [← hR.all]
      repeat' (first | (refine fv_sl ?_) | (refine fh_ob ?_) | refine o1 ?_ | refine o2 ?_ | refine k1 ?_ | refine k2 ?_ | refine k3 ?_ | refine k7 ?_ | refine k8 ?_ | refine And.intro ?_ ?_ | (intro h; first | exact Bool.noConfusion h | exact nz _ h | exact nl h | (simp at h; done) | (simp at h; first | (exfalso; omega) | skip) | skip) | refine eqv_len_map ?_ | fail)
      exact ret_sl rfl ⟨ALe.refl⟩ leq_down
  · have e : setsV m = [] := if_neg hok
    rw [e]
    generalize modelE m = E at hv hok
    refine acall_of tok mixed 74 rfl (fn := Tryz.f17) (c := Tryz.f17.body.getD .skip) (by kernel_rfl) (by kernel_rfl) (by kernel_rfl) rfl 0 rfl ?_
    repeat' (first | refine o1 ?_ | refine o2 ?_ | refine k1 ?_ | refine k2 ?_ | refine k3 ?_ | refine k7 ?_ | refine And.intro ?_ ?_ | (intro h; first | exact Bool.noConfusion h | exact nz _ h | exact nl h | (simp at h; done) | (simp at h; first | (exfalso; omega) | skip) | skip) | (change retOk _ _ _ _; refine ret_pure rfl trivial ?_) | (change vcFun _ _ _ _ _; refine call_eq rfl (by repeat' (first | trivial | refine And.intro ?_ ?_ | (show 0 + _ ≤ List.length _; simp))) ALeL.refl (hv) rfl ?_) | fail)
    all_goals first
      | (exfalso; omega)
      | exact ⟨ALe.pv PLe.nil⟩
theorem c_rRooms (m : Model) (hl : Laid m) : PCall Tryz.prog 17 [ag m.cells] (fun r => r = .pv (.sl 1 ((setsV m).map lstRow))) := (c_rRooms0 m hl).weak fun r k => ⟨_, k.le, rfl⟩
end Go.Proofs.YtihpjcmloecaaaaGreat.Cw
/-
  Symmetry: equal lists of lists.
-/
namespace Go.Proofs.YtihpjcmloecaaaaGreat.Cw
open Go Go.Cw Go.Proofs
set_option linter.unusedVariables false
set_option maxRecDepth 100000
set_option maxHeartbeats 8000000
theorem c_sameIntsR (l : List Int) (hl : l.length ≤ 100000) : PCall Tryz.prog 21 [.pv (.sl 1 (l.map intRow)), .pv (.sl 1 (l.map intRow))] (fun r => r = vbool true) := c_sameInts l hl
theorem setsF_len {m : Model} : ∀ {n : Nat} {l : List Int}, (setsF m n l).length ≤ l.length ∧ ∀ s ∈ setsF m n l, s.length ≤ l.length
  | 0, l => ⟨Nat.zero_le _, by simp [setsF]⟩
  | n + 1, [] => ⟨Nat.zero_le _, by simp [setsF]⟩
  | n + 1, x :: l => by
    obtain ⟨h1, h2⟩ := setsF_len (m := m) (n := n) (l := l.filter fun b => !swB m x b)
    have h3 := List.length_filter_le (fun b => !swB m x b) l
    have h4 := List.length_filter_le (swB m x) l
    unfold setsF
    split
    · rw [List.nil_append]
      refine ⟨by simp only [List.length_cons]; omega, fun s hs => ?_⟩
      have := h2 s hs
      simp only [List.length_cons]; omega
    · refine ⟨by simp only [List.length_append, List.length_cons, List.length_nil]; omega, fun s hs => ?_⟩
      rcases List.mem_append.1 hs with hs | hs
      · simp at hs; subst hs; simp only [List.length_cons]; omega
      · have := h2 s hs
        simp only [List.length_cons]; omega
theorem setsV_len {m : Model} : (setsV m).length ≤ 576 ∧ ∀ s ∈ setsV m, s.length ≤ 576 := by
  unfold setsV
  split
  · rename_i h
    have h1 := rooms_len (model_sized h)
    obtain ⟨h2, h3⟩ := setsF_len (m := m) (n := (roomsV m).length) (l := roomsV m)
    exact ⟨by omega, fun s hs => by have := h3 s hs; omega⟩
  · exact ⟨by simp, by simp⟩
end Go.Proofs.YtihpjcmloecaaaaGreat.Cw
/-
  Symmetry: sets of rooms, and plans (program's side).
-/
namespace Go.Proofs.YtihpjcmloecaaaaGreat.Cw
open Go Go.Cw Go.Proofs
set_option linter.unusedVariables false
set_option maxRecDepth 100000
set_option maxHeartbeats 8000000
noncomputable def setF (S : List (List Int)) (r : Int) : List Int := (S.find? fun s => pB (r ∈ s)).getD []
theorem find_take_none {α : Type} {f : α → Bool} {l : List α} {i : Nat} {x : α} (h : ∀ j, j < i → ∀ y, l[j]? = some y → f y = false) (hx : l[i]? = some x) (hf : f x = true) : l.find? f = some x := by
  induction l generalizing i with
  | nil => simp at hx
  | cons a l ih =>
    cases i with
    | zero => simp at hx; subst hx; rw [List.find?_cons, hf]
    | succ i =>
      rw [List.find?_cons, h 0 (by omega) a rfl]
      exact ih (i := i) (fun j hj y hy => h (j + 1) (Nat.succ_lt_succ hj) y (by simpa using hy)) (by simpa using hx)
theorem find_all_none {α : Type} {f : α → Bool} {l : List α} (h : ∀ j, j < l.length → ∀ y, l[j]? = some y → f y = false) : l.find? f = none := by
  rw [List.find?_eq_none]
  intro x hx
  obtain ⟨j, hj⟩ := List.getElem?_of_mem hx
  rw [h j (List.getElem?_eq_some_iff.1 hj).1 x hj]; decide
theorem c_setOf0 (S : List (List Int)) (r : Int) (hS : S.length ≤ 100000) (hs : ∀ s ∈ S, s.length ≤ 100000) : PCall Tryz.prog 47 [.pv (.sl 1 (S.map lstRow)), vint .i64 r] (fun x => Leq x (.pv (.sl 1 ((setF S r).map intRow)))) := by
  refine acall_of tok mixed 18 rfl (fn := Tryz.f47) (c := Tryz.f47.body.getD .skip) (by kernel_rfl) (by kernel_rfl) (by kernel_rfl) rfl 0 rfl ?_
  repeat' (first | refine o1 ?_ | refine o2 ?_ | refine k1 ?_ | refine k2 ?_ | refine k4 ?_ | refine eqv_len_map ?_ | fail)
  refine loop_for (fun i : Nat => [(1, vint .i64 r), (7, .pv (.sl 1 (S.map lstRow))), (8, vint .i64 S.length), (9, vint .i64 i)]) (fun _ => [])
    (fun i => i ≤ S.length ∧ ∀ j, j < i → ∀ y, S[j]? = some y → pB (r ∈ y) = false) (fun i => S.length - i) 0 ⟨Nat.zero_le _, fun j hj => absurd hj (Nat.not_lt_zero _)⟩ ?_ ?_
  · exact back [] rfl rfl trivial (by repeat' (first | exact trivial | exact rfl | refine And.intro ?_ ?_))
  rintro i ⟨hi, hn⟩
  rcases Nat.lt_or_ge i S.length with hlt | hge
  · obtain ⟨s, hs1⟩ := getE hlt
    have hc := c_containsN s r (hs s (List.mem_of_getElem? hs1))
    cases hb : pB (r ∈ s)
    · rw [hb] at hc
      repeat' (first | (refine idx_sl (k := i) (at_map hs1) (by omega) ?_) | refine o1 ?_ | refine o2 ?_ | refine k1 ?_ | refine k2 ?_ | refine k3 ?_ | refine k4 ?_ | refine k6 ?_ | refine And.intro ?_ ?_ | (intro h; first | exact Bool.noConfusion h | exact nz _ h | exact nl h | (simp at h; done) | (simp at h; first | (exfalso; omega) | skip) | skip) | refine eqv_wrap (by omega) (by omega) ?_ | (change vcFun _ _ _ _ _; refine call_eq rfl (by repeat' (first | trivial | refine And.intro ?_ ?_ | (show 0 + _ ≤ List.length _; simp))) ALeL.refl (hc) rfl ?_) | fail)
      all_goals first
        | (exfalso; omega)
        | exact ⟨i + 1, ⟨by omega, fun j hj y hy => by
            rcases Nat.lt_or_ge j i with h1 | h1
            · exact hn j h1 y hy
            · obtain rfl : j = i := by omega
              rw [hs1] at hy; cases hy; exact hb⟩, by omega, back [] rfl rfl trivial (by repeat' (first | exact trivial | exact rfl | refine And.intro ?_ ?_))⟩
    · rw [hb] at hc
      have e : setF S r = s := by unfold setF; rw [find_take_none hn hs1 hb]; rfl
      rw [e]
      repeat' (first | (refine idx_sl (k := i) (at_map hs1) (by omega) ?_) | refine o1 ?_ | refine o2 ?_ | refine k1 ?_ | refine k2 ?_ | refine k3 ?_ | refine k4 ?_ | refine k6 ?_ | refine k7 ?_ | refine And.intro ?_ ?_ | (intro h; first | exact Bool.noConfusion h | exact nz _ h | exact nl h | (simp at h; done) | (simp at h; first | (exfalso; omega) | skip) | skip) | (change retOk _ _ _ _; refine ret_pure rfl trivial ?_) | (change vcFun _ _ _ _ _; refine call_eq rfl (by repeat' (first | trivial | refine And.intro ?_ ?_ | (show 0 + _ ≤ List.length _; simp))) ALeL.refl (hc) rfl ?_) | fail)
      all_goals first
        | (exfalso; omega)
        | exact ⟨ALe.refl⟩
  · have e : setF S r = [] := by unfold setF; rw [find_all_none fun j hj => hn j (by omega)]; rfl
    rw [e]
    repeat' (first | refine o1 ?_ | refine o2 ?_ | refine k1 ?_ | refine k2 ?_ | refine k3 ?_ | refine k7 ?_ | refine k8 ?_ | refine And.intro ?_ ?_ | (intro h; first | exact Bool.noConfusion h | exact nz _ h | exact nl h | (simp at h; done) | (simp at h; first | (exfalso; omega) | skip) | skip) | (change retOk _ _ _ _; refine ret_pure rfl trivial ?_) | fail)
    all_goals first
      | (exfalso; omega)
      | exact ⟨ALe.pv PLe.nil⟩
theorem c_setOf (S : List (List Int)) (r : Int) (hS : S.length ≤ 100000) (hs : ∀ s ∈ S, s.length ≤ 100000) : PCall Tryz.prog 47 [.pv (.sl 1 (S.map lstRow)), vint .i64 r] (fun x => x = .pv (.sl 1 ((setF S r).map intRow))) := (c_setOf0 S r hS hs).weak fun r k => ⟨_, k.le, rfl⟩
def isPlanP (m : Model) (plan : List Int) : Prop := plan.length = m.classes.length ∧ ∀ j : Nat, j < plan.length → ∀ o l, plan[j]? = some o → m.classes[j]? = some l → -1 ≤ o ∧ o < l.length
theorem c_isPlan (m : Model) (plan : List Int) (hz : sizedP m) : PCall Tryz.prog 43 [ag m.cells, .pv (encInts plan)] (fun r => r = vbool (pB (isPlanP m plan))) := by
  refine acall_of tok mixed 33 rfl (fn := Tryz.f43) (c := Tryz.f43.body.getD .skip) (by kernel_rfl) (by kernel_rfl) (by kernel_rfl) rfl 0 rfl ?_
  have hcn := hz.1
  repeat' (first | refine o1 ?_ | refine o2 ?_ | refine k1 ?_ | refine k2 ?_ | refine k3 ?_ | refine k4 ?_ | refine k6 ?_ | refine k7 ?_ | refine And.intro ?_ ?_ | (intro h; first | exact Bool.noConfusion h | exact nz _ h | exact nl h | (simp at h; done) | (simp at h; first | (exfalso; omega) | skip) | skip) | (change retOk _ _ _ _; refine ret_pure rfl trivial ?_) | refine eqv_len_map ?_ | fail)
  all_goals first
    | exact congrArg vbool (pB_f fun h => by have := h.1; omega).symm
    | skip
  have hpl : plan.length = m.classes.length := by omega
  refine loop_for (fun i : Nat => [(2, .ptr 0 4 0 0), (13, .pv (encInts plan)), (14, vint .i64 plan.length), (15, vint .i64 i)]) (fun _ => [some ⟨29, 4, false, .box [.pv (.sl 1 (m.classes.map optsRow)), .pv (.sl 4 (m.pairs.map Pair.row)), .pv (.sl 4 (m.counts.map Count.row)), .pv (ei m.rules)]⟩])
    (fun i => i ≤ plan.length ∧ ∀ j : Nat, j < i → ∀ o l, plan[j]? = some o → m.classes[j]? = some l → -1 ≤ o ∧ o < l.length) (fun i => plan.length - i) 0 ⟨Nat.zero_le _, fun j hj => absurd hj (Nat.not_lt_zero _)⟩ ?_ ?_
  · exact back [0] rfl rfl (by repeat' (first | exact trivial | exact rfl | refine And.intro ?_ ?_)) (by repeat' (first | exact trivial | exact rfl | refine And.intro ?_ ?_))
  rintro i ⟨hi, hall⟩
  rcases Nat.lt_or_ge i plan.length with hlt | hge
  · obtain ⟨o, ho⟩ := getE hlt
    obtain ⟨l, hl⟩ := getE (l := m.classes) (i := i) (by omega)
    have hln := hz.2.1 l (List.mem_of_getElem? hl)
    have hstep : -1 ≤ o → o < l.length → ∀ j : Nat, j < i + 1 → ∀ o l, plan[j]? = some o → m.classes[j]? = some l → -1 ≤ o ∧ o < l.length := fun h1 h2 j hj o' l' ho' hl' => by
      rcases Nat.lt_or_ge j i with h3 | h3
      · exact hall j h3 o' l' ho' hl'
      · obtain rfl : j = i := by omega
        rw [ho] at ho'; rw [hl] at hl'; cases ho'; cases hl'; exact ⟨h1, h2⟩
    repeat' (first | (refine idx_sl (k := i) (at_map ho) (by omega) ?_) | (refine idx_sl (k := i) (at_map hl) (by omega) ?_) | refine o1 ?_ | refine o2 ?_ | refine k1 ?_ | refine k2 ?_ | refine k3 ?_ | refine k4 ?_ | refine k6 ?_ | refine k7 ?_ | refine And.intro ?_ ?_ | (intro h; first | exact Bool.noConfusion h | exact nz _ h | exact nl h | (simp at h; done) | (simp at h; first | (exfalso; omega) | skip) | skip) | (change retOk _ _ _ _; refine ret_pure rfl trivial ?_) | refine eqv_len_map ?_ | refine eqv_wrap (by omega) (by omega) ?_ | fail)
    all_goals first
      | (refine congrArg vbool (pB_f fun h => ?_).symm; have := h.2 i hlt o l ho hl; omega)
      | exact ⟨i + 1, ⟨by omega, hstep (by omega) (by omega)⟩, by omega, back [0] rfl rfl (by repeat' (first | exact trivial | exact rfl | refine And.intro ?_ ?_)) (by repeat' (first | exact trivial | exact rfl | refine And.intro ?_ ?_))⟩
  · repeat' (first | refine o1 ?_ | refine o2 ?_ | refine k1 ?_ | refine k2 ?_ | refine k3 ?_ | refine k7 ?_ | refine k8 ?_ | refine And.intro ?_ ?_ | (intro h; first | exact Bool.noConfusion h | exact nz _ h | exact nl h | (simp at h; done) | (simp at h; first | (exfalso; omega) | skip) | skip) | (change retOk _ _ _ _; refine ret_pure rfl trivial ?_) | fail)
    all_goals first
      | exact congrArg vbool (pB_t ⟨hpl, fun j hj => hall j (by omega)⟩).symm
end Go.Proofs.YtihpjcmloecaaaaGreat.Cw
/-
  Symmetry: the least plan that arises from a plan (program's side).
-/
namespace Go.Proofs.YtihpjcmloecaaaaGreat.Cw
open Go Go.Cw Go.Proofs
set_option linter.unusedVariables false
set_option maxRecDepth 100000
set_option maxHeartbeats 8000000
def numM (f : Int × Int → Int × PV) : Nat → List (Int × Int) → List (Value × Nat × AV)
  | _, [] => []
  | b, e :: E => (.int .i64 (f e).1, b, .pv (f e).2) :: numM f (b + 1) E
section
variable {f : Int × Int → Int × PV} {k : Int}
theorem numM_get : ∀ {E : List (Int × Int)} {b : Nat}, getM (.int .i64 k) (numM f b E) = (E.find? fun e => k == (f e).1).map fun e => .pv (f e).2
  | [], b => rfl
  | e :: E, b => by
    simp only [numM, getM, List.find?_cons]
    show (bif k == (f e).1 then _ else _) = _
    cases k == (f e).1
    · exact numM_get
    · rfl
theorem numM_put {v : AV} {ck : Nat} : ∀ {E : List (Int × Int)} {b : Nat}, (E.find? fun e => k == (f e).1) = none → putM (.int .i64 k) v ck (numM f b E) = numM f b E ++ [(.int .i64 k, ck, v)]
  | [], b, _ => rfl
  | e :: E, b, h => by
    simp only [numM, putM, List.find?_cons] at *
    cases hk : k == (f e).1
    · rw [hk] at h
      show (bif k == (f e).1 then _ else _) = _
      rw [hk]
      show _ :: _ = _ :: _
      rw [numM_put h]; rfl
    · rw [hk] at h; cases h
theorem numM_app {e : Int × Int} : ∀ {E : List (Int × Int)} {b : Nat}, numM f b (E ++ [e]) = numM f b E ++ [(.int .i64 (f e).1, b + E.length, .pv (f e).2)]
  | [], b => rfl
  | a :: E, b => by
    simp only [numM, List.cons_append, List.length_cons]
    rw [numM_app, show b + 1 + E.length = b + (E.length + 1) by omega]
theorem numM_pure : ∀ {E : List (Int × Int)} {b : Nat}, pureM (numM f b E)
  | [], b => fun e h => absurd h List.not_mem_nil
  | a :: E, b => fun e h => by
    simp only [numM, List.mem_cons] at h
    rcases h with rfl | h
    · exact ⟨_, rfl⟩
    · exact numM_pure e h
end
def fTo (e : Int × Int) : Int × PV := (e.1, .val (.int .i64 e.2))
def fTk (e : Int × Int) : Int × PV := (e.2, .val (.bool true))
def mapN (ty : Nat) (f : Int × Int → Int × PV) (E : List (Int × Int)) : Option AObj := some ⟨ty, 1, false, .mp .num .i64 (numM f 0 E) E.length⟩
theorem kept_mpN {ty d i : Nat} {H Hc : Heap} {rn l : List Nat} {f : Int × Int → Int × PV} {E : List (Int × Int)} (h : H[i]? = some (mapN ty f E)) (hk : kept H d rn l Hc) : kept H d rn (i :: l) (mapN ty f E :: Hc) :=
  ⟨(by show _ = some (some (renO _ _ _)); rw [ren_mp numM_pure]; exact h), hk⟩
def toF (E : List (Int × Int)) (r : Int) : Option Int := (E.find? fun e => r == e.1).map (·.2)
def takenB (E : List (Int × Int)) (t : Int) : Bool := (E.find? fun e => t == e.2).isSome
def imgI (o : Option Nat) : Int := ((o.getD 0 : Nat) : Int)
def pickS (E : List (Int × Int)) (g : Int → Int) (st : Int × Int) (t : Int) : Int × Int := if takenB E t then st else if st.1 < 0 ∨ g t < st.2 then (t, g t) else st
noncomputable def canStep (S : List (List Int)) (l : List Opt) (o : Nat) (r : Int) (c : Nat) (st : List Int × List (Int × Int)) : List Int × List (Int × Int) :=
  match toF st.2 r with
  | some t => (st.1.set c (imgI (imgO l o t)), st.2)
  | none => (st.1.set c ((setF S r).foldl (pickS st.2 fun t => imgI (imgO l o t)) (-1, (o : Int))).2, if 0 ≤ ((setF S r).foldl (pickS st.2 fun t => imgI (imgO l o t)) (-1, (o : Int))).1 then st.2 ++ [(r, ((setF S r).foldl (pickS st.2 fun t => imgI (imgO l o t)) (-1, (o : Int))).1)] else st.2)
noncomputable def canS (m : Model) (plan : List Int) (S : List (List Int)) : Nat → List Int × List (Int × Int)
  | 0 => (plan, [])
  | k + 1 => match plan[k]?, m.classes[k]? with
    | some o, some l => if o < 0 then canS m plan S k else match l[o.toNat]? with
      | some q => canStep S l o.toNat q.place.room k (canS m plan S k)
      | none => canS m plan S k
    | _, _ => canS m plan S k
noncomputable def canV (m : Model) (plan : List Int) : List Int := (canS m plan (setsV m) plan.length).1
noncomputable def canE (m : Model) (plan : List Int) : Int := if modelE m = 0 then (if pB (isPlanP m plan) then 0 else 17) else modelE m
noncomputable def canR (m : Model) (plan : List Int) : List Int := if canE m plan = 0 then canV m plan else []
theorem call_cloneI {l : List Int} {H : Heap} {K : AV → Heap → Prop} (hl : 0 < l.length ∧ l.length ≤ 100000) (hK : K (.ms H.length 1 0 l.length) (H ++ [some ⟨3, 1, false, .p (l.map intRow)⟩])) : vcFun Tryz.prog 44 [.pv (.sl 1 (l.map intRow))] H K := by
  refine call_obj [] [] [.pv (.sl 1 (l.map intRow))] rfl trivial rfl (c_cloneI l hl) fun r Hc' hp => ?_
  obtain ⟨rfl, rfl⟩ := hp
  exact ⟨Nat.zero_le _, hK⟩
def mdlO (m : Model) : Option AObj := some ⟨29, 4, false, .box [.pv (.sl 1 (m.classes.map optsRow)), .pv (.sl 4 (m.pairs.map Pair.row)), .pv (.sl 4 (m.counts.map Count.row)), .pv (ei m.rules)]⟩
theorem imgA_eq {o : Option Nat} : imgA o = .tup [vint .i64 (imgI o), vbool o.isSome] := by cases o <;> rfl
theorem set_same {α : Type} {l : List α} {c : Nat} {x : α} (h : l[c]? = some x) : l.set c x = l := by
  obtain ⟨hl, rfl⟩ := List.getElem?_eq_some_iff.1 h
  exact List.set_getElem_self hl
theorem get_to {E : List (Int × Int)} {r : Int} : getM (.int .i64 r) (numM fTo 0 E) = (toF E r).map fun t => vint .i64 t := by
  rw [numM_get]; unfold toF; rw [Option.map_map]; rfl
theorem get_tk {E : List (Int × Int)} {t : Int} : getM (.int .i64 t) (numM fTk 0 E) = if takenB E t then some (vbool true) else none := by
  rw [numM_get]; unfold takenB
  show (E.find? fun e => t == e.2).map _ = _
  cases (E.find? fun e => t == e.2) <;> rfl
theorem put_to {E : List (Int × Int)} {r b : Int} (h : toF E r = none) : putM (.int .i64 r) (vint .i64 b) E.length (numM fTo 0 E) = numM fTo 0 (E ++ [(r, b)]) := by
  have h : (E.find? fun e => r == (fTo e).1) = none := by
    show (E.find? fun e => r == e.1) = none
    unfold toF at h
    cases hf : (E.find? fun e => r == e.1) with
    | none => rfl
    | some e => rw [hf] at h; cases h
  rw [numM_put h, numM_app, Nat.zero_add]; rfl
theorem put_tk {E : List (Int × Int)} {r b : Int} (h : takenB E b = false) : putM (.int .i64 b) (vbool true) E.length (numM fTk 0 E) = numM fTk 0 (E ++ [(r, b)]) := by
  have h : (E.find? fun e => b == (fTk e).1) = none := by
    show (E.find? fun e => b == e.2) = none
    unfold takenB at h
    cases hf : (E.find? fun e => b == e.2) with
    | none => rfl
    | some e => rw [hf] at h; cases h
  rw [numM_put h, numM_app, Nat.zero_add]; rfl
theorem ck_to {E : List (Int × Int)} {r b : Int} (h : toF E r = none) : ckM (.int .i64 r) E.length (numM fTo 0 E) = (E ++ [(r, b)]).length := by
  unfold ckM; rw [get_to, h, List.length_append]; rfl
theorem ck_tk {E : List (Int × Int)} {r b : Int} (h : takenB E b = false) : ckM (.int .i64 b) E.length (numM fTk 0 E) = (E ++ [(r, b)]).length := by
  unfold ckM; rw [get_tk, h, List.length_append]; rfl
theorem pickS_taken {E : List (Int × Int)} {g : Int → Int} {st : Int × Int} {t : Int} (h : takenB E t = true) : pickS E g st t = st := by unfold pickS; rw [if_pos h]
theorem pickS_put {E : List (Int × Int)} {g : Int → Int} {st : Int × Int} {t : Int} (h : takenB E t = false) (h2 : st.1 < 0 ∨ g t < st.2) : pickS E g st t = (t, g t) := by unfold pickS; rw [if_neg (by rw [h]; decide), if_pos h2]
theorem pickS_skip {E : List (Int × Int)} {g : Int → Int} {st : Int × Int} {t : Int} (h : takenB E t = false) (h2 : ¬ (st.1 < 0 ∨ g t < st.2)) : pickS E g st t = st := by unfold pickS; rw [if_neg (by rw [h]; decide), if_neg h2]
theorem pick_free {E : List (Int × Int)} {g : Int → Int} : ∀ {l : List Int} {st : Int × Int}, st.1 < 0 ∨ takenB E st.1 = false → (l.foldl (pickS E g) st).1 < 0 ∨ takenB E (l.foldl (pickS E g) st).1 = false
  | [], st, h => h
  | t :: l, st, h => by
    refine pick_free (l := l) ?_
    unfold pickS
    cases ht : takenB E t
    · simp only [Bool.false_eq_true, if_false]
      split
      · exact .inr ht
      · exact h
    · simpa using h
theorem canS_next {m : Model} {plan : List Int} {S : List (List Int)} {c : Nat} {o : Int} {l : List Opt} (ho : plan[c]? = some o) (hl : m.classes[c]? = some l) : canS m plan S (c + 1) = if o < 0 then canS m plan S c else match l[o.toNat]? with
      | some q => canStep S l o.toNat q.place.room c (canS m plan S c)
      | none => canS m plan S c := by
  rw [canS, ho, hl]
theorem canStep_inv {S : List (List Int)} {l : List Opt} {o : Nat} {r : Int} {c : Nat} {st : List Int × List (Int × Int)} : (canStep S l o r c st).1.length = st.1.length ∧ ∀ j : Nat, c < j → (canStep S l o r c st).1[j]? = st.1[j]? := by
  unfold canStep
  split
  · exact ⟨List.length_set .., fun j hj => List.getElem?_set_ne (by omega)⟩
  · exact ⟨List.length_set .., fun j hj => List.getElem?_set_ne (by omega)⟩
theorem canS_inv {m : Model} {plan : List Int} {S : List (List Int)} (hp : isPlanP m plan) : ∀ {c : Nat}, c ≤ plan.length → (canS m plan S c).1.length = plan.length ∧ ∀ j : Nat, c ≤ j → (canS m plan S c).1[j]? = plan[j]?
  | 0, _ => ⟨rfl, fun _ _ => rfl⟩
  | c + 1, hc => by
    obtain ⟨h1, h2⟩ := canS_inv hp (c := c) (S := S) (by omega)
    obtain ⟨o, ho⟩ := getE (l := plan) (i := c) (by omega)
    obtain ⟨l, hl⟩ := getE (l := m.classes) (i := c) (by have := hp.1; omega)
    rw [canS_next ho hl]
    split
    · exact ⟨h1, fun j hj => h2 j (by omega)⟩
    · split
      · obtain ⟨g1, g2⟩ := canStep_inv (S := S) (l := l) (o := o.toNat) (r := (‹Opt›).place.room) (c := c) (st := canS m plan S c)
        exact ⟨by rw [g1, h1], fun j hj => by rw [g2 j (by omega), h2 j (by omega)]⟩
      · exact ⟨h1, fun j hj => h2 j (by omega)⟩
theorem setF_len {S : List (List Int)} {r : Int} {n : Nat} (h : ∀ s ∈ S, s.length ≤ n) : (setF S r).length ≤ n := by
  unfold setF
  cases hf : S.find? fun s => pB (r ∈ s) with
  | none => exact Nat.zero_le _
  | some s => exact h s (List.mem_of_find?_eq_some hf)
theorem c_canon0 (m : Model) (plan : List Int) (hl : Laid m) : PCall Tryz.prog 19 [ag m.cells, .pv (encInts plan)] (fun r => Leq r (.tup [.pv (.sl 1 ((canR m plan).map intRow)), vint .i64 (canE m plan)])) := by
  have hv := c_valid m hl
  by_cases hok : modelE m = 0
  · have hz := model_sized hok
    have hp := c_isPlan m plan hz
    rw [hok] at hv
    by_cases hpl : isPlanP m plan
    · rw [pB_t hpl] at hp
      have hR := c_Rooms m hl
      rcases plan with _ | ⟨p0, plan⟩
      · have e1 : canE m [] = 0 := by unfold canE; rw [if_pos hok, pB_t hpl]; rfl
        have e2 : canR m [] = [] := by unfold canR; rw [if_pos e1]; rfl
        rw [e1, e2]
        have hce := c_cloneIE 0
        refine acall_of tok mixed 122 rfl (fn := Tryz.f19) (c := Tryz.f19.body.getD .skip) (by kernel_rfl) (by kernel_rfl) (by kernel_rfl) rfl 0 rfl ?_
        repeat' (first | ((change vcFun _ _ _ _ _; refine call_frz rfl (by repeat' (first | trivial | refine And.intro ?_ ?_ | (show 0 + _ ≤ List.length _; simp))) ALeL.refl hR ?_; rintro _ rfl)) | ((change vcFun _ _ _ _ _; refine call_frz rfl (by repeat' (first | trivial | refine And.intro ?_ ?_ | (show 0 + _ ≤ List.length _; simp))) ALeL.refl hce ?_; rintro _ rfl)) | refine o1 ?_ | refine o2 ?_ | refine k1 ?_ | refine k2 ?_ | refine k3 ?_ | refine k4 ?_ | refine k6 ?_ | refine And.intro ?_ ?_ | (intro h; first | exact Bool.noConfusion h | exact nz _ h | exact nl h | (simp at h; done) | (simp at h; first | (exfalso; omega) | skip) | skip) | refine eqv_len_map ?_ | (change vcFun _ _ _ _ _; refine call_eq rfl (by repeat' (first | trivial | refine And.intro ?_ ?_ | (show 0 + _ ≤ List.length _; simp))) ALeL.refl (hv) rfl ?_) | (change vcFun _ _ _ _ _; refine call_eq rfl (by repeat' (first | trivial | refine And.intro ?_ ?_ | (show 0 + _ ≤ List.length _; simp))) ALeL.refl (hp) rfl ?_) | fail)
        refine loop_for (fun _ : Unit => [(8, .pv (.sl 1 [])), (39, vint .i64 (0 : Nat)), (40, vint .i64 (0 : Nat))]) (fun _ => []) (fun _ => True) (fun _ => 0) () trivial ?_ ?_
        · exact back [] rfl rfl trivial (by repeat' (first | exact trivial | exact rfl | refine And.intro ?_ ?_))
        intro _ _
        repeat' (first | refine o1 ?_ | refine o2 ?_ | refine k1 ?_ | refine k2 ?_ | refine k3 ?_ | refine k7 ?_ | refine k8 ?_ | refine And.intro ?_ ?_ | (intro h; first | exact Bool.noConfusion h | exact nz _ h | exact nl h | (simp at h; done) | (simp at h; first | (exfalso; omega) | skip) | skip) | (change retOk _ _ _ _; refine ret_pure rfl trivial ?_) | fail)
        exact ⟨ALe.refl⟩
      have hcl : 0 < (p0 :: plan).length ∧ (p0 :: plan).length ≤ 100000 := ⟨by simp, by have := hpl.1; have := hz.1; omega⟩
      have e1 : canE m (p0 :: plan) = 0 := by unfold canE; rw [if_pos hok, pB_t hpl]; rfl
      have e2 : canR m (p0 :: plan) = (canS m (p0 :: plan) (setsV m) (p0 :: plan).length).1 := by unfold canR; rw [if_pos e1]; rfl
      rw [e1, e2]
      have hSl := setsV_len (m := m)
      generalize setsV m = S at *
      generalize hpn : p0 :: plan = pl at *
      refine acall_of tok mixed 122 rfl (fn := Tryz.f19) (c := Tryz.f19.body.getD .skip) (by kernel_rfl) (by kernel_rfl) (by kernel_rfl) rfl 0 rfl ?_
      repeat' (first | ((change vcFun _ _ _ _ _; refine call_frz rfl (by repeat' (first | trivial | refine And.intro ?_ ?_ | (show 0 + _ ≤ List.length _; simp))) ALeL.refl hR ?_; rintro _ rfl)) | ((change vcFun _ _ _ _ _; refine call_cloneI hcl ?_)) | refine o1 ?_ | refine o2 ?_ | refine k1 ?_ | refine k2 ?_ | refine k3 ?_ | refine k4 ?_ | refine k6 ?_ | refine And.intro ?_ ?_ | (intro h; first | exact Bool.noConfusion h | exact nz _ h | exact nl h | (simp at h; done) | (simp at h; first | (exfalso; omega) | skip) | skip) | refine eqv_len_map ?_ | (change vcFun _ _ _ _ _; refine call_eq rfl (by repeat' (first | trivial | refine And.intro ?_ ?_ | (show 0 + _ ≤ List.length _; simp))) ALeL.refl (hv) rfl ?_) | (change vcFun _ _ _ _ _; refine call_eq rfl (by repeat' (first | trivial | refine And.intro ?_ ?_ | (show 0 + _ ≤ List.length _; simp))) ALeL.refl (hp) rfl ?_) | fail)
      refine loop_for (fun c : Nat => [(2, .ptr 0 4 0 0), (7, .pv (.sl 1 (S.map lstRow))), (8, .ms 1 1 0 pl.length), (9, .mp 2), (10, .mp 3), (38, .pv (encInts pl)), (39, vint .i64 pl.length), (40, vint .i64 c)])
        (fun c => [mdlO m, some ⟨3, 1, false, .p ((canS m pl S c).1.map intRow)⟩, mapN 82 fTo (canS m pl S c).2, mapN 83 fTk (canS m pl S c).2])
        (fun c => c ≤ pl.length) (fun c => pl.length - c) 0 (Nat.zero_le _) ?_ ?_
      · exact back [0, 1, 2, 3] rfl rfl ⟨rfl, rfl, rfl, rfl, trivial⟩ (by repeat' (first | exact trivial | exact rfl | refine And.intro ?_ ?_))
      intro c hc
      have hinv := canS_inv (m := m) (plan := pl) (S := S) hpl hc
      rcases Nat.lt_or_ge c pl.length with hcl2 | hcg
      · obtain ⟨o, ho⟩ := getE hcl2
        obtain ⟨l, hll⟩ := getE (l := m.classes) (i := c) (by have := hpl.1; omega)
        have hop := hpl.2 c hcl2 o l ho hll
        have hln := hz.2.1 l (List.mem_of_getElem? hll)
        have hcn := canS_next (S := S) ho hll
        generalize canS m pl S c = st0 at *
        obtain ⟨out, E⟩ := st0
        dsimp only at hinv hcn ⊢
        by_cases ho0 : o < 0
        · rw [if_pos ho0] at hcn
          repeat' (first | (refine idx_sl (k := c) (at_map ho) (by omega) ?_) | refine o1 ?_ | refine o2 ?_ | refine k1 ?_ | refine k2 ?_ | refine k3 ?_ | refine k4 ?_ | refine k6 ?_ | refine k8 ?_ | refine And.intro ?_ ?_ | (intro h; first | exact Bool.noConfusion h | exact nz _ h | exact nl h | (simp at h; done) | (simp at h; first | (exfalso; omega) | skip) | skip) | refine eqv_wrap (by omega) (by omega) ?_ | fail)
          exact ⟨c + 1, by omega, by omega, (by rw [hcn]; exact back [0, 1, 2, 3] rfl rfl ⟨rfl, rfl, kept_mpN rfl (kept_mpN rfl trivial)⟩ (by repeat' (first | exact trivial | exact rfl | refine And.intro ?_ ?_)))⟩
        obtain ⟨q, rfl⟩ : ∃ q : Nat, o = q := ⟨o.toNat, by omega⟩
        obtain ⟨op, hop2⟩ := getE (l := l) (i := q) (by omega)
        rw [if_neg ho0] at hcn
        dsimp only [mdlO]
        repeat' (first | (refine idx_sl (k := c) (at_map ho) (by omega) ?_) | (refine idx_sl (k := c) (at_map hll) (by omega) ?_) | (refine idx_sl (k := q) (at_map hop2) (by omega) ?_) | (refine join_in (a := .region 14 _ _) (fun _ => [(14, vint .i64 op.place.room), (15, .mp 4)]) (fun _ : Unit => [mdlO m, some ⟨3, 1, false, .p (out.map intRow)⟩, mapN 82 fTo E, mapN 83 fTk E, mapP 85 (grpE l l.length)]) (fun _ => True) ?_) | ((show xCode _ _ _ _ (.region 14 _ _) _ _ _; refine code_region_any ?_)) | ((change vcFun _ _ _ _ _; refine call_index (by omega) ?_)) | ((change ∃ x : Unit, _ ∧ _; exact ⟨(), trivial, back [0, 1, 2, 3, 4] rfl rfl ⟨rfl, rfl, kept_mpN rfl (kept_mpN rfl (kept_mp rfl trivial))⟩ (by repeat' (first | exact trivial | exact rfl | exact ⟨_, rfl, ALe.refl⟩ | refine And.intro ?_ ?_))⟩)) | refine o1 ?_ | refine o2 ?_ | refine k1 ?_ | refine k2 ?_ | refine k3 ?_ | refine k4 ?_ | refine k6 ?_ | refine And.intro ?_ ?_ | exact trivial | refine o5 ?_ | refine o6 ?_ | (intro h; first | exact Bool.noConfusion h | exact nz _ h | exact nl h | (simp at h; done) | (simp at h; first | (exfalso; omega) | skip) | skip) | fail)
        refine ⟨?_⟩
        intro _ _
        have hcn : canS m pl S (c + 1) = canStep S l q op.place.room c (out, E) := by rw [hcn, Int.toNat_natCast, hop2]
        have hoc : out[c]? = some (q : Int) := by rw [hinv.2 c (Nat.le_refl _), ho]
        have hol : out.length = pl.length := hinv.1
        generalize op.place.room = r at *
        generalize hEg : grpE l l.length = G at *
        have hgt := get_to (E := E) (r := r)
        rcases hto : toF E r with _ | t
        · rw [hto] at hgt
          have hso := c_setOf S r (by omega) fun s hs => by have := hSl.2 s hs; omega
          have hcn1 : canS m pl S (c + 1) = (out.set c ((setF S r).foldl (pickS E fun t => imgI (imgO l q t)) (-1, (q : Int))).2, if 0 ≤ ((setF S r).foldl (pickS E fun t => imgI (imgO l q t)) (-1, (q : Int))).1 then E ++ [(r, ((setF S r).foldl (pickS E fun t => imgI (imgO l q t)) (-1, (q : Int))).1)] else E) := by rw [hcn]; unfold canStep; dsimp only; rw [hto]
          have hql : (setF S r).length ≤ 576 := setF_len hSl.2
          have hfree := pick_free (E := E) (g := fun t => imgI (imgO l q t)) (l := setF S r) (st := (-1, (q : Int))) (.inl (by show (-1 : Int) < 0; decide))
          generalize setF S r = sq at *
          repeat' (first | (refine eqv_to none hgt ?_) | ((change vcFun _ _ _ _ _; refine call_frz rfl (by repeat' (first | trivial | refine And.intro ?_ ?_ | (show 0 + _ ≤ List.length _; simp))) ALeL.refl hso ?_; rintro _ rfl)) | refine o1 ?_ | refine o2 ?_ | refine k1 ?_ | refine k2 ?_ | refine k3 ?_ | refine k4 ?_ | refine k6 ?_ | refine And.intro ?_ ?_ | (intro h; first | exact Bool.noConfusion h | exact nz _ h | exact nl h | (simp at h; done) | (simp at h; first | (exfalso; omega) | skip) | skip) | refine eqv_len_map ?_ | fail)
          refine loop_for (fun k : Nat => [(2, .ptr 0 4 0 0), (7, .pv (.sl 1 (S.map lstRow))), (8, .ms 1 1 0 pl.length), (9, .mp 2), (10, .mp 3), (38, .pv (encInts pl)), (39, vint .i64 pl.length), (40, vint .i64 c), (11, vint .i64 c), (12, vint .i64 q), (13, .pv (.sl 6 (l.map Opt.row))), (14, vint .i64 r), (15, .mp 4), (18, vint .i64 ((sq.take k).foldl (pickS E fun t => imgI (imgO l q t)) (-1, (q : Int))).1), (80, .pv (.sl 1 (sq.map intRow))), (81, vint .i64 sq.length), (82, vint .i64 k)])
            (fun k => [mdlO m, some ⟨3, 1, false, .p ((out.set c ((sq.take k).foldl (pickS E fun t => imgI (imgO l q t)) (-1, (q : Int))).2).map intRow)⟩, mapN 82 fTo E, mapN 83 fTk E, mapP 85 G])
            (fun k => k ≤ sq.length) (fun k => sq.length - k) 0 (Nat.zero_le _) ?_ ?_
          · have h0 : out.set c ((sq.take 0).foldl (pickS E fun t => imgI (imgO l q t)) (-1, (q : Int))).2 = out := set_same hoc
            rw [h0]
            exact back [0, 1, 2, 3, 4] rfl rfl ⟨rfl, rfl, kept_mpN rfl (kept_mpN rfl (kept_mp rfl trivial))⟩ (by repeat' (first | exact trivial | exact rfl | refine And.intro ?_ ?_))
          intro k hk
          rcases Nat.lt_or_ge k sq.length with hkl | hkg
          · obtain ⟨t, ht⟩ := getE hkl
            have hst : (sq.take (k + 1)).foldl (pickS E fun t => imgI (imgO l q t)) (-1, (q : Int)) = pickS E (fun t => imgI (imgO l q t)) ((sq.take k).foldl (pickS E fun t => imgI (imgO l q t)) (-1, (q : Int))) t := by rw [tk_snoc ht, List.foldl_append]; rfl
            generalize (sq.take k).foldl (pickS E fun t => imgI (imgO l q t)) (-1, (q : Int)) = st0 at *
            obtain ⟨b, x⟩ := st0
            dsimp only at hst ⊢
            have hgk := get_tk (E := E) (t := t)
            have hcx : (out.set c x)[c]? = some x := by rw [List.getElem?_set_self (by omega)]
            cases htk : takenB E t
            · rw [htk] at hgk
              have hgk : getM (.int .i64 t) (numM fTk 0 E) = none := hgk
              repeat' (first | (refine idx_sl (k := k) (at_map ht) (by omega) ?_) | (refine eqv_to none hgk ?_) | ((change vcFun _ _ _ _ _; refine call_image 4 hEg.symm rfl (by omega) (by omega) ?_; rw [imgA_eq])) | (refine ⟨_, at_map hcx, ?_⟩) | refine o1 ?_ | refine o2 ?_ | refine k1 ?_ | refine k2 ?_ | refine k3 ?_ | refine k4 ?_ | refine k6 ?_ | refine And.intro ?_ ?_ | (intro h; first | exact Bool.noConfusion h | exact nz _ h | exact nl h | (simp at h; done) | (simp at h; first | (exfalso; omega) | skip) | skip) | exact Nat.le_of_ble_eq_true rfl | refine eqv_zero ?_ | refine eqv_wrap (by omega) (by omega) ?_ | refine eqv_to _ (set_map rfl rfl) ?_ | refine idx_ms _ (by first | rfl | assumption) (by first | assumption | omega) ?_ | fail)
              all_goals first
                | (exfalso; omega)
                | (refine ⟨k + 1, by omega, by omega, ?_⟩
                   rw [hst, pickS_put htk (by show b < 0 ∨ imgI (imgO l q t) < x; omega), List.set_set]
                   exact back [0, 1, 2, 3, 4] rfl rfl ⟨rfl, rfl, kept_mpN rfl (kept_mpN rfl (kept_mp rfl trivial))⟩ (by repeat' (first | exact trivial | exact rfl | refine And.intro ?_ ?_)))
                | (refine ⟨k + 1, by omega, by omega, ?_⟩
                   rw [hst, pickS_skip htk (by show ¬ (b < 0 ∨ imgI (imgO l q t) < x); omega)]
                   exact back [0, 1, 2, 3, 4] rfl rfl ⟨rfl, rfl, kept_mpN rfl (kept_mpN rfl (kept_mp rfl trivial))⟩ (by repeat' (first | exact trivial | exact rfl | refine And.intro ?_ ?_)))
            · rw [htk] at hgk
              have hgk : getM (.int .i64 t) (numM fTk 0 E) = some (vbool true) := hgk
              rw [pickS_taken htk] at hst
              repeat' (first | (refine idx_sl (k := k) (at_map ht) (by omega) ?_) | (refine eqv_to _ hgk ?_) | refine o1 ?_ | refine o2 ?_ | refine k1 ?_ | refine k2 ?_ | refine k3 ?_ | refine k4 ?_ | refine k6 ?_ | refine k8 ?_ | refine And.intro ?_ ?_ | (intro h; first | exact Bool.noConfusion h | exact nz _ h | exact nl h | (simp at h; done) | (simp at h; first | (exfalso; omega) | skip) | skip) | refine eqv_wrap (by omega) (by omega) ?_ | fail)
              all_goals first
                | (exfalso; omega)
                | exact ⟨k + 1, by omega, by omega, (by rw [hst]; exact back [0, 1, 2, 3, 4] rfl rfl ⟨rfl, rfl, kept_mpN rfl (kept_mpN rfl (kept_mp rfl trivial))⟩ (by repeat' (first | exact trivial | exact rfl | refine And.intro ?_ ?_)))⟩
          · obtain rfl : k = sq.length := by omega
            rw [List.take_length]
            generalize sq.foldl (pickS E fun t => imgI (imgO l q t)) (-1, (q : Int)) = st0 at *
            obtain ⟨b, x⟩ := st0
            dsimp only at hcn1 hfree ⊢
            by_cases hb0 : 0 ≤ b
            · rw [if_pos hb0] at hcn1
              have htk : takenB E b = false := hfree.elim (fun h => by omega) id
              have hp1 := put_to (b := b) hto
              have hp2 := put_tk (r := r) htk
              have hc1 := ck_to (b := b) hto
              have hc2 := ck_tk (r := r) htk
              repeat' (first | (refine eqv_to _ hp1 ?_) | (refine eqv_to _ hp2 ?_) | (refine eqv_to _ hc1 ?_) | (refine eqv_to _ hc2 ?_) | refine o1 ?_ | refine o2 ?_ | refine k1 ?_ | refine k2 ?_ | refine k3 ?_ | refine k8 ?_ | refine And.intro ?_ ?_ | (intro h; first | exact Bool.noConfusion h | exact nz _ h | exact nl h | (simp at h; done) | (simp at h; first | (exfalso; omega) | skip) | skip) | refine eqv_wrap (by omega) (by omega) ?_ | fail)
              all_goals first
                | (exfalso; omega)
                | exact ⟨c + 1, by omega, by omega, (by rw [hcn1]; exact back [0, 1, 2, 3] rfl rfl ⟨rfl, rfl, kept_mpN rfl (kept_mpN rfl trivial)⟩ (by repeat' (first | exact trivial | exact rfl | refine And.intro ?_ ?_)))⟩
            · rw [if_neg hb0] at hcn1
              repeat' (first | refine o1 ?_ | refine o2 ?_ | refine k1 ?_ | refine k2 ?_ | refine k3 ?_ | refine k6 ?_ | refine k8 ?_ | refine And.intro ?_ ?_ | (intro h; first | exact Bool.noConfusion h | exact nz _ h | exact nl h | (simp at h; done) | (simp at h; first | (exfalso; omega) | skip) | skip) | refine eqv_wrap (by omega) (by omega) ?_ | fail)
              all_goals first
                | (exfalso; omega)
                | exact ⟨c + 1, by omega, by omega, (by rw [hcn1]; exact back [0, 1, 2, 3] rfl rfl ⟨rfl, rfl, kept_mpN rfl (kept_mpN rfl trivial)⟩ (by repeat' (first | exact trivial | exact rfl | refine And.intro ?_ ?_)))⟩
        · rw [hto] at hgt
          have hcn1 : canS m pl S (c + 1) = (out.set c (imgI (imgO l q t)), E) := by rw [hcn]; unfold canStep; dsimp only; rw [hto]
          repeat' (first | (refine eqv_to _ hgt ?_) | ((change vcFun _ _ _ _ _; refine call_image 4 hEg.symm rfl (by omega) (by omega) ?_; rw [imgA_eq])) | refine o1 ?_ | refine o2 ?_ | refine k1 ?_ | refine k2 ?_ | refine k3 ?_ | refine k8 ?_ | refine And.intro ?_ ?_ | (intro h; first | exact Bool.noConfusion h | exact nz _ h | exact nl h | (simp at h; done) | (simp at h; first | (exfalso; omega) | skip) | skip) | exact Nat.le_of_ble_eq_true rfl | refine eqv_zero ?_ | refine eqv_wrap (by omega) (by omega) ?_ | refine eqv_to _ (set_map rfl rfl) ?_ | refine ⟨_, at_map (by assumption), ?_⟩ | refine idx_ms _ (by first | rfl | assumption) (by first | assumption | omega) ?_ | fail)
          all_goals first
            | exact ⟨c + 1, by omega, by omega, (by rw [hcn1]; exact back [0, 1, 2, 3] rfl rfl ⟨rfl, rfl, kept_mpN rfl (kept_mpN rfl trivial)⟩ (by repeat' (first | exact trivial | exact rfl | refine And.intro ?_ ?_)))⟩
      · obtain rfl : c = pl.length := by omega
        obtain ⟨hol, _⟩ := hinv
        generalize (canS m pl S pl.length) = st0 at *
        obtain ⟨out, E⟩ := st0
        dsimp only at hol ⊢
        dsimp only [mdlO]
        repeat' (first | refine o1 ?_ | refine o2 ?_ | refine k1 ?_ | refine k2 ?_ | refine k3 ?_ | refine k7 ?_ | refine k8 ?_ | refine And.intro ?_ ?_ | (intro h; first | exact Bool.noConfusion h | exact nz _ h | exact nl h | (simp at h; done) | (simp at h; first | (exfalso; omega) | skip) | skip) | fail)
        refine ret_pure (r0 := .tup [.pv (.sl 1 (((out.map intRow).drop 0).take pl.length)), vint .i64 0]) rfl ?_ ?_
        · refine ⟨?_, trivial⟩
          show 0 + pl.length ≤ _
          rw [List.length_map]; omega
        · rw [List.drop_zero, List.take_of_length_le (by rw [List.length_map]; omega)]
          exact ⟨ALe.refl⟩
    · rw [pB_f hpl] at hp
      have e1 : canE m plan = 17 := by unfold canE; rw [if_pos hok, pB_f hpl]; rfl
      have e2 : canR m plan = [] := by unfold canR; rw [if_neg (by rw [e1]; decide)]
      rw [e1, e2]
      refine acall_of tok mixed 122 rfl (fn := Tryz.f19) (c := Tryz.f19.body.getD .skip) (by kernel_rfl) (by kernel_rfl) (by kernel_rfl) rfl 0 rfl ?_
      repeat' (first | refine o1 ?_ | refine o2 ?_ | refine k1 ?_ | refine k2 ?_ | refine k3 ?_ | refine k6 ?_ | refine k7 ?_ | refine And.intro ?_ ?_ | (intro h; first | exact Bool.noConfusion h | exact nz _ h | exact nl h | (simp at h; done) | (simp at h; first | (exfalso; omega) | skip) | skip) | (change retOk _ _ _ _; refine ret_pure rfl trivial ?_) | (change vcFun _ _ _ _ _; refine call_eq rfl (by repeat' (first | trivial | refine And.intro ?_ ?_ | (show 0 + _ ≤ List.length _; simp))) ALeL.refl (hv) rfl ?_) | (change vcFun _ _ _ _ _; refine call_eq rfl (by repeat' (first | trivial | refine And.intro ?_ ?_ | (show 0 + _ ≤ List.length _; simp))) ALeL.refl (hp) rfl ?_) | fail)
      exact ⟨ALe.tup ⟨ALe.pv PLe.nil, ALe.refl, trivial⟩⟩
  · have e1 : canE m plan = modelE m := by unfold canE; rw [if_neg hok]
    have e2 : canR m plan = [] := by unfold canR; rw [if_neg (by rw [e1]; exact hok)]
    rw [e1, e2]
    refine acall_of tok mixed 122 rfl (fn := Tryz.f19) (c := Tryz.f19.body.getD .skip) (by kernel_rfl) (by kernel_rfl) (by kernel_rfl) rfl 0 rfl ?_
    repeat' (first | refine o1 ?_ | refine o2 ?_ | refine k1 ?_ | refine k2 ?_ | refine k3 ?_ | refine k7 ?_ | refine And.intro ?_ ?_ | (intro h; first | exact Bool.noConfusion h | exact nz _ h | exact nl h | (simp at h; done) | (simp at h; first | (exfalso; omega) | skip) | skip) | (change retOk _ _ _ _; refine ret_pure rfl trivial ?_) | (change vcFun _ _ _ _ _; refine call_eq rfl (by repeat' (first | trivial | refine And.intro ?_ ?_ | (show 0 + _ ≤ List.length _; simp))) ALeL.refl (hv) rfl ?_) | fail)
    all_goals first
      | (exfalso; omega)
      | exact ⟨ALe.tup ⟨ALe.pv PLe.nil, ALe.refl, trivial⟩⟩
theorem c_canon (m : Model) (plan : List Int) (hl : Laid m) : PCall Tryz.prog 19 [ag m.cells, .pv (encInts plan)] (fun r => r = .tup [.pv (.sl 1 ((canR m plan).map intRow)), vint .i64 (canE m plan)]) := (c_canon0 m plan hl).weak fun r k => ⟨_, k.le, rfl⟩
end Go.Proofs.YtihpjcmloecaaaaGreat.Cw
/-
  Symmetry, plain: the sets of rooms; what the steps of the canonical plan do.
-/
namespace Go.Proofs.YtihpjcmloecaaaaGreat.Cw
open Go Go.Cw Go.Proofs
set_option linter.unusedVariables false
theorem exch_symm {r a b : Int} : exch r a b = exch r b a := by
  unfold exch
  split
  · split
    · omega
    · rfl
  · split <;> rfl
theorem swapO_symm {l : List Opt} {a b : Int} {i : Nat} : swapO l a b i = swapO l b a i := by
  unfold swapO
  cases l[i]? with
  | none => rfl
  | some o => simp only [exch_symm]
theorem imN_symm {l : List Opt} {a b : Int} {i : Nat} : imN l a b i = imN l b a i := by unfold imN; rw [swapO_symm]
theorem swapP_symm {m : Model} {a b : Int} (h : swapP m a b) : swapP m b a := by
  obtain ⟨h1, h2, h3⟩ := h
  refine ⟨fun l hl i hi => ?_, fun p hp x y hx hy i hi k hk => ?_, ?_⟩
  · obtain ⟨j, o, q, g⟩ := h1 l hl i hi
    exact ⟨j, o, q, by rw [← swapO_symm]; exact g.1, g.2⟩
  · rw [← imN_symm, ← imN_symm (l := y)]; exact h2 p hp x y hx hy i hi k hk
  · unfold cntSame at *
    rw [h3]
    congr 1
    funext l
    unfold imLoad
    cases m.classes[l.cls.toNat]? with
    | none => rfl
    | some x => simp only [imN_symm]
structure SetsOk (m : Model) (l : List Int) (S : List (List Int)) : Prop where
  sub : ∀ s ∈ S, ∀ x ∈ s, x ∈ l
  nd : ∀ s ∈ S, s.Nodup
  dis : S.Pairwise fun s t => ∀ x ∈ s, x ∉ t
  sw : ∀ s ∈ S, ∀ x ∈ s, ∀ y ∈ s, x ≠ y → swapP m x y
theorem sets_ok {m : Model} (hz : sizedP m) (hg : goodP m) : ∀ {n : Nat} {l : List Int}, l.Nodup → SetsOk m l (setsF m n l)
  | 0, l, _ => ⟨fun s h => absurd h List.not_mem_nil, fun s h => absurd h List.not_mem_nil, List.Pairwise.nil, fun s h => absurd h List.not_mem_nil⟩
  | n + 1, [], _ => ⟨fun s h => absurd h List.not_mem_nil, fun s h => absurd h List.not_mem_nil, List.Pairwise.nil, fun s h => absurd h List.not_mem_nil⟩
  | n + 1, x :: l, hnd => by
    obtain ⟨hx, hl⟩ := List.nodup_cons.1 hnd
    have ih := sets_ok hz hg (n := n) (l := l.filter fun b => !swB m x b) (List.Pairwise.filter _ hl)
    have hset : SetsOk m (x :: l) [x :: l.filter (swB m x)] := by
      refine ⟨fun s h y hy => ?_, fun s h => ?_, List.pairwise_singleton .., fun s h y hy z hz' hne => ?_⟩
      · obtain rfl := List.mem_singleton.1 h
        rcases List.mem_cons.1 hy with rfl | hy
        · exact List.mem_cons_self ..
        · exact List.mem_cons_of_mem _ (List.mem_filter.1 hy).1
      · obtain rfl := List.mem_singleton.1 h
        exact List.nodup_cons.2 ⟨fun h => hx (List.mem_filter.1 h).1, List.Pairwise.filter _ hl⟩
      · obtain rfl := List.mem_singleton.1 h
        rcases List.mem_cons.1 hy with rfl | hy
        · rcases List.mem_cons.1 hz' with rfl | hz'
          · exact absurd rfl hne
          · exact sw_iff.1 (List.mem_filter.1 hz').2
        · have h1 := sw_iff.1 (List.mem_filter.1 hy).2
          rcases List.mem_cons.1 hz' with rfl | hz'
          · exact swapP_symm h1
          · have h2 := sw_iff.1 (List.mem_filter.1 hz').2
            have n1 : y ≠ x := fun e => hx (e ▸ (List.mem_filter.1 hy).1)
            have n2 : z ≠ x := fun e => hx (e ▸ (List.mem_filter.1 hz').1)
            exact swap_trans hz hg hne n1 n2 (swapP_symm h1) (swapP_symm h2)
    unfold setsF
    split
    · refine ⟨fun s h y hy => ?_, ih.nd, ih.dis, ih.sw⟩
      exact List.mem_cons_of_mem _ (List.mem_filter.1 (ih.sub s h y hy)).1
    · refine ⟨fun s h y hy => ?_, fun s h => ?_, ?_, fun s h => ?_⟩
      · rcases List.mem_append.1 h with h | h
        · exact hset.sub s h y hy
        · exact List.mem_cons_of_mem _ (List.mem_filter.1 (ih.sub s h y hy)).1
      · rcases List.mem_append.1 h with h | h
        · exact hset.nd s h
        · exact ih.nd s h
      · refine List.pairwise_append.2 ⟨hset.dis, ih.dis, fun s h t ht y hy hyt => ?_⟩
        obtain rfl := List.mem_singleton.1 h
        have h2 := List.mem_filter.1 (ih.sub t ht y hyt)
        rcases List.mem_cons.1 hy with rfl | hy
        · exact hx h2.1
        · have := (List.mem_filter.1 hy).2
          rw [this] at h2; simp at h2
      · rcases List.mem_append.1 h with h | h
        · exact hset.sw s h
        · exact ih.sw s h
theorem setsV_ok {m : Model} (hok : modelE m = 0) : SetsOk m (roomsV m) (setsV m) := by
  unfold setsV
  rw [if_pos hok]
  exact sets_ok (model_sized hok) (model_good hok) ((rooms_spec m).2.imp fun h => by omega)
theorem pairwise_mem {α : Type} {R : α → α → Prop} : ∀ {l : List α}, l.Pairwise R → ∀ {s t : α}, s ∈ l → t ∈ l → s = t ∨ R s t ∨ R t s
  | [], _, s, t, h, _ => absurd h List.not_mem_nil
  | a :: l, hp, s, t, hs, ht => by
    obtain ⟨h1, h2⟩ := List.pairwise_cons.1 hp
    rcases List.mem_cons.1 hs with e1 | hs1
    · rcases List.mem_cons.1 ht with e2 | ht1
      · exact .inl (e1.trans e2.symm)
      · exact .inr (.inl (e1 ▸ h1 t ht1))
    · rcases List.mem_cons.1 ht with e2 | ht1
      · exact .inr (.inr (e2 ▸ h1 s hs1))
      · exact pairwise_mem h2 hs1 ht1
theorem SetsOk.same {m : Model} {l : List Int} {S : List (List Int)} (h : SetsOk m l S) {s t : List Int} (hs : s ∈ S) (ht : t ∈ S) {x : Int} (h1 : x ∈ s) (h2 : x ∈ t) : s = t := by
  rcases pairwise_mem h.dis hs ht with e | e | e
  · exact e
  · exact absurd h2 (e x h1)
  · exact absurd h1 (e x h2)
theorem setF_mem {m : Model} {l : List Int} {S : List (List Int)} (h : SetsOk m l S) {s : List Int} (hs : s ∈ S) {r : Int} (hr : r ∈ s) : setF S r = s := by
  unfold setF
  cases hf : S.find? fun s => pB (r ∈ s) with
  | none => have := List.find?_eq_none.1 hf s hs; rw [pB_t hr] at this; exact absurd rfl this
  | some t =>
    have h1 := List.mem_of_find?_eq_some hf
    have h2 := List.find?_some hf
    exact h.same h1 hs (by simpa using h2) hr
theorem setF_none {S : List (List Int)} {r : Int} (h : ∀ s ∈ S, r ∉ s) : setF S r = [] := by
  unfold setF
  rw [List.find?_eq_none.2 fun s hs => by rw [pB_f (h s hs)]; decide]; rfl
theorem img_set {m : Model} {R : List Int} {S : List (List Int)} (h : SetsOk m R S) {s : List Int} (hs : s ∈ S) {t : Int} (ht : t ∈ s) {l : List Opt} (hl : l ∈ m.classes) {o : Nat} {q : Opt} (ho : l[o]? = some q) (hr : q.place.room ∈ s) : ∃ j, imgO l o t = some j := by
  by_cases e : q.place.room = t
  · exact ⟨o, by rw [← e]; exact img_self ho⟩
  · obtain ⟨j, o', q', h1, _⟩ := (h.sw s hs _ hr t ht e).1 l hl o (List.getElem?_eq_some_iff.1 ho).1
    refine ⟨j, ?_⟩
    rw [← swap_of ho (exch_a rfl)]; exact h1
end Go.Proofs.YtihpjcmloecaaaaGreat.Cw
/-
  Symmetry, plain: the canonical plan, as_ the program and as_ the reference make it.
-/
namespace Go.Proofs.YtihpjcmloecaaaaGreat.Cw
open Go Go.Cw Go.Proofs
set_option linter.unusedVariables false
theorem nodup_le {α : Type} [DecidableEq α] : ∀ {a b : List α}, a.Nodup → (∀ x ∈ a, x ∈ b) → a.length ≤ b.length
  | [], b, _, _ => Nat.zero_le _
  | x :: a, b, h, hs => by
    obtain ⟨h1, h2⟩ := List.nodup_cons.1 h
    have hx := hs x (List.mem_cons_self ..)
    have := nodup_le (a := a) (b := b.erase x) h2 fun y hy => (List.mem_erase_of_ne (fun e : y = x => h1 (e ▸ hy))).2 (hs y (List.mem_cons_of_mem _ hy))
    rw [List.length_erase_of_mem hx] at this
    have := List.length_pos_of_mem hx
    rw [List.length_cons]; omega
theorem to_some {E : List (Int × Int)} {r t : Int} (h : toF E r = some t) : (r, t) ∈ E := by
  unfold toF at h
  obtain ⟨e, h1, rfl⟩ := Option.map_eq_some_iff.1 h
  have h2 := List.find?_some h1
  have h3 : r = e.1 := by simpa using h2
  rw [h3]; exact List.mem_of_find?_eq_some h1
theorem to_none {E : List (Int × Int)} {r : Int} (h : toF E r = none) {e : Int × Int} (he : e ∈ E) : e.1 ≠ r := fun hr => by
  unfold toF at h
  have h1 := Option.map_eq_none_iff.1 h
  have := List.find?_eq_none.1 h1 e he
  rw [hr] at this; simp at this
theorem tk_iff {E : List (Int × Int)} {t : Int} : takenB E t = true ↔ ∃ e ∈ E, e.2 = t := by
  unfold takenB
  rw [List.find?_isSome]
  constructor
  · rintro ⟨e, he, h⟩
    have h1 : t = e.2 := by simpa using h
    exact ⟨e, he, h1.symm⟩
  · rintro ⟨e, he, h⟩; exact ⟨e, he, by simp [h]⟩
theorem to_app {E : List (Int × Int)} {r b x : Int} (h : toF E r = none) : toF (E ++ [(r, b)]) x = if x = r then some b else toF E x := by
  unfold toF at *
  rw [List.find?_append]
  by_cases e : x = r
  · subst e
    rw [if_pos rfl, Option.map_eq_none_iff.1 h]
    simp
  · rw [if_neg e]
    cases hf : (E.find? fun e => x == e.1) with
    | some y => rfl
    | none => simp [e]
theorem tk_app {E : List (Int × Int)} {r b x : Int} : takenB (E ++ [(r, b)]) x = (takenB E x || decide (x = b)) := by
  have : takenB (E ++ [(r, b)]) x = true ↔ (takenB E x || decide (x = b)) = true := by
    rw [tk_iff, Bool.or_eq_true, tk_iff, decide_eq_true_iff]
    constructor
    · rintro ⟨e, he, h⟩
      rcases List.mem_append.1 he with he | he
      · exact .inl ⟨e, he, h⟩
      · obtain rfl := List.mem_singleton.1 he; exact .inr h.symm
    · rintro (⟨e, he, h⟩ | h)
      · exact ⟨e, List.mem_append.2 (.inl he), h⟩
      · exact ⟨(r, b), List.mem_append.2 (.inr (List.mem_singleton.2 rfl)), h.symm⟩
  exact Bool.eq_iff_iff.2 this
section
variable {E : List (Int × Int)} {g : Int → Int}
theorem pick_keep : ∀ {l : List Int} {st : Int × Int}, (∀ t ∈ l, 0 ≤ t) → 0 ≤ st.1 → 0 ≤ (l.foldl (pickS E g) st).1
  | [], st, _, h => h
  | t :: l, st, hl, h => by
    refine pick_keep (l := l) (fun t h => hl t (List.mem_cons_of_mem _ h)) ?_
    have h0 := hl t (List.mem_cons_self ..)
    unfold pickS
    split
    · exact h
    · split
      · exact h0
      · exact h
theorem pick_some : ∀ {l : List Int} {st : Int × Int}, (∀ t ∈ l, 0 ≤ t) → (∃ t ∈ l, takenB E t = false) → 0 ≤ (l.foldl (pickS E g) st).1
  | [], st, _, ⟨t, h, _⟩ => absurd h List.not_mem_nil
  | x :: l, st, hl, ⟨t, h, ht⟩ => by
    have hl2 := fun t h => hl t (List.mem_cons_of_mem _ h)
    rcases List.mem_cons.1 h with e | h5
    · subst e
      refine pick_keep (l := l) hl2 ?_
      by_cases h2 : st.1 < 0 ∨ g t < st.2
      · rw [pickS_put ht h2]; exact hl t (List.mem_cons_self ..)
      · rw [pickS_skip ht h2]; omega
    · exact pick_some (l := l) hl2 ⟨t, h5, ht⟩
theorem pick_in : ∀ {l : List Int} {st : Int × Int}, l.foldl (pickS E g) st = st ∨ ((l.foldl (pickS E g) st).1 ∈ l ∧ (l.foldl (pickS E g) st).2 = g (l.foldl (pickS E g) st).1)
  | [], st => .inl rfl
  | t :: l, st => by
    rw [List.foldl_cons]
    rcases pick_in (l := l) (st := pickS E g st t) with h | ⟨h1, h2⟩
    · rw [h]
      unfold pickS
      split
      · exact .inl rfl
      · split
        · exact .inr ⟨List.mem_cons_self .., rfl⟩
        · exact .inl rfl
    · exact .inr ⟨List.mem_cons_of_mem _ h1, h2⟩
end
structure CanI (S : List (List Int)) (E : List (Int × Int)) : Prop where
  keys : E.Pairwise fun e f => e.1 ≠ f.1
  vals : E.Pairwise fun e f => e.2 ≠ f.2
  same : ∀ e ∈ E, ∃ s ∈ S, e.1 ∈ s ∧ e.2 ∈ s
theorem CanI.nil {S : List (List Int)} : CanI S [] := ⟨List.Pairwise.nil, List.Pairwise.nil, fun e h => absurd h List.not_mem_nil⟩
section
variable {m : Model} {R : List Int} {S : List (List Int)} {E : List (Int × Int)} {s : List Int} {r : Int}
theorem CanI.free (h : CanI S E) (ok : SetsOk m R S) (hs : s ∈ S) (hr : r ∈ s) (hto : toF E r = none) : ∃ t ∈ s, takenB E t = false := by
  refine Classical.byContradiction fun hn => ?_
  have hall : ∀ t ∈ s, takenB E t = true := fun t ht => by
    cases hb : takenB E t with
    | true => rfl
    | false => exact absurd ⟨t, ht, hb⟩ hn
  have h1 : s.length ≤ ((E.filter fun e => pB (e.1 ∈ s)).map (·.2)).length := nodup_le (ok.nd s hs) fun t ht => by
    obtain ⟨e, he, rfl⟩ := tk_iff.1 (hall t ht)
    obtain ⟨s', hs', g1, g2⟩ := h.same e he
    obtain rfl := ok.same hs hs' ht g2
    exact List.mem_map.2 ⟨e, List.mem_filter.2 ⟨he, pB_t g1⟩, rfl⟩
  have h2 : (r :: (E.filter fun e => pB (e.1 ∈ s)).map (·.1)).length ≤ s.length := nodup_le
    (List.nodup_cons.2 ⟨fun hm => by
      obtain ⟨e, he, h⟩ := List.mem_map.1 hm
      exact to_none hto (List.mem_filter.1 he).1 h, List.pairwise_map.2 (List.Pairwise.filter _ h.keys)⟩) fun x hx => by
    rcases List.mem_cons.1 hx with rfl | hx
    · exact hr
    · obtain ⟨e, he, rfl⟩ := List.mem_map.1 hx
      simpa using (List.mem_filter.1 he).2
  simp only [List.length_map, List.length_cons] at h1 h2
  omega
theorem CanI.app (h : CanI S E) {b : Int} (hs : s ∈ S) (hr : r ∈ s) (hb : b ∈ s) (hto : toF E r = none) (htk : takenB E b = false) : CanI S (E ++ [(r, b)]) := by
  refine ⟨List.pairwise_append.2 ⟨h.keys, List.pairwise_singleton .., fun e he f hf => ?_⟩, List.pairwise_append.2 ⟨h.vals, List.pairwise_singleton .., fun e he f hf => ?_⟩, fun e he => ?_⟩
  · obtain rfl := List.mem_singleton.1 hf; exact to_none hto he
  · obtain rfl := List.mem_singleton.1 hf
    exact fun e2 => by have := tk_iff.2 ⟨e, he, e2⟩; rw [htk] at this; cases this
  · rcases List.mem_append.1 he with he | he
    · exact h.same e he
    · obtain rfl := List.mem_singleton.1 he; exact ⟨s, hs, hr, hb⟩
theorem step_in (h : CanI S E) (ok : SetsOk m R S) (hR : ∀ x ∈ R, 0 ≤ x) {out : List Int} {l : List Opt} {o c : Nat} (hc : c < out.length) (hs : s ∈ S) (hr : r ∈ s) :
    CanI S (canStep S l o r c (out, E)).2 ∧ ∃ t ∈ s, toF (canStep S l o r c (out, E)).2 r = some t ∧ (canStep S l o r c (out, E)).1 = out.set c (imgI (imgO l o t)) ∧
      ((toF E r = some t ∧ (canStep S l o r c (out, E)).2 = E) ∨ (toF E r = none ∧ takenB E t = false ∧ (canStep S l o r c (out, E)).2 = E ++ [(r, t)] ∧ t = (s.foldl (pickS E fun t => imgI (imgO l o t)) (-1, (o : Int))).1)) := by
  have hs0 : ∀ t ∈ s, 0 ≤ t := fun t ht => hR t (ok.sub s hs t ht)
  unfold canStep
  dsimp only
  rw [setF_mem ok hs hr]
  rcases hto : toF E r with _ | t
  · dsimp only
    have hp := pick_some (g := fun t => imgI (imgO l o t)) (st := (-1, (o : Int))) hs0 (h.free ok hs hr hto)
    have hf := pick_free (E := E) (g := fun t => imgI (imgO l o t)) (l := s) (st := (-1, (o : Int))) (.inl (by show (-1 : Int) < 0; decide))
    have hi := pick_in (E := E) (g := fun t => imgI (imgO l o t)) (l := s) (st := (-1, (o : Int)))
    generalize s.foldl (pickS E fun t => imgI (imgO l o t)) (-1, (o : Int)) = st at *
    obtain ⟨b, x⟩ := st
    dsimp only at hp hf hi ⊢
    rw [if_pos hp]
    have hi : b ∈ s ∧ x = imgI (imgO l o b) := by
      rcases hi with hi | hi
      · injection hi with h1 h2; omega
      · exact hi
    have htk : takenB E b = false := hf.elim (fun h => by omega) id
    exact ⟨h.app hs hr hi.1 hto htk, b, hi.1, by rw [to_app hto, if_pos rfl], by rw [hi.2], .inr ⟨rfl, htk, rfl, rfl⟩⟩
  · dsimp only
    obtain ⟨s', hs', g1, g2⟩ := h.same _ (to_some hto)
    obtain rfl := ok.same hs hs' hr g1
    exact ⟨h, t, g2, hto, rfl, .inl ⟨rfl, rfl⟩⟩
theorem step_out (h : CanI S E) {out : List Int} {l : List Opt} {o c : Nat} (ho : out[c]? = some (o : Int)) (hn : ∀ s ∈ S, r ∉ s) : canStep S l o r c (out, E) = (out, E) := by
  unfold canStep
  dsimp only
  rw [setF_none hn]
  rcases hto : toF E r with _ | t
  · dsimp only
    show (out.set c (o : Int), if (0 : Int) ≤ -1 then _ else E) = _
    rw [if_neg (by decide), set_same ho]
  · obtain ⟨s', hs', g1, _⟩ := h.same _ (to_some hto)
    exact absurd g1 (hn s' hs')
end
end Go.Proofs.YtihpjcmloecaaaaGreat.Cw
/-
  Symmetry, plain: what the reference's tables say; the plan, set by set.
-/
namespace Go.Proofs.YtihpjcmloecaaaaGreat.Cw
open Go Go.Cw Go.Proofs
set_option linter.unusedVariables false
theorem canStep_ne {S : List (List Int)} {l : List Opt} {o : Nat} {r : Int} {c j : Nat} {st : List Int × List (Int × Int)} (h : c ≠ j) : (canStep S l o r c st).1[j]? = st.1[j]? := by
  unfold canStep
  split
  · exact List.getElem?_set_ne h
  · exact List.getElem?_set_ne h
theorem canS_ne {m : Model} {plan : List Int} {S : List (List Int)} {c j : Nat} (h : c ≠ j) : (canS m plan S (c + 1)).1[j]? = (canS m plan S c).1[j]? := by
  rcases ho : plan[c]? with _ | o
  · rw [canS, ho]
  rcases hl : m.classes[c]? with _ | l
  · rw [canS, ho, hl]
  rw [canS_next ho hl]
  split
  · rfl
  · split
    · exact canStep_ne h
    · rfl
theorem canS_at {m : Model} {plan : List Int} {S : List (List Int)} {j : Nat} : ∀ {d : Nat}, (canS m plan S (j + 1 + d)).1[j]? = (canS m plan S (j + 1)).1[j]?
  | 0 => rfl
  | d + 1 => by
    rw [← canS_at (j := j) (d := d)]
    exact canS_ne (c := j + 1 + d) (by omega)
def rmAt (m : Model) (plan : List Int) (j : Nat) : Int := match plan[j]?, m.classes[j]? with
  | some o, some l => if o < 0 then -1 else match l[o.toNat]? with
    | some q => q.place.room
    | none => -1
  | _, _ => -1
section
variable {m : Model} {plan : List Int} {R : List Int} {S : List (List Int)}
theorem rm_neg {j : Nat} {o : Int} {l : List Opt} (ho : plan[j]? = some o) (hl : m.classes[j]? = some l) (h : o < 0) : rmAt m plan j = -1 := by
  unfold rmAt; rw [ho, hl]; dsimp only; rw [if_pos h]
theorem rm_pos {j o : Nat} {l : List Opt} {q : Opt} (ho : plan[j]? = some (o : Int)) (hl : m.classes[j]? = some l) (hq : l[o]? = some q) : rmAt m plan j = q.place.room := by
  unfold rmAt; rw [ho, hl]; dsimp only
  rw [if_neg (by omega), Int.toNat_natCast, hq]
theorem can_cases (hpl : isPlanP m plan) (ok : SetsOk m R S) (hR : ∀ x ∈ R, 0 ≤ x) {c : Nat} (hc : c < plan.length) (hI : CanI S (canS m plan S c).2) :
    (canS m plan S (c + 1) = canS m plan S c ∧ (∀ s ∈ S, rmAt m plan c ∉ s) ∧ (canS m plan S c).1[c]? = plan[c]?) ∨
    ∃ (o : Nat) (l : List Opt) (q : Opt) (s : List Int) (t : Int), plan[c]? = some (o : Int) ∧ m.classes[c]? = some l ∧ l[o]? = some q ∧ s ∈ S ∧ q.place.room ∈ s ∧ rmAt m plan c = q.place.room ∧ t ∈ s ∧
      CanI S (canS m plan S (c + 1)).2 ∧ toF (canS m plan S (c + 1)).2 q.place.room = some t ∧ (canS m plan S (c + 1)).1[c]? = some (imgI (imgO l o t)) ∧
      ((toF (canS m plan S c).2 q.place.room = some t ∧ (canS m plan S (c + 1)).2 = (canS m plan S c).2) ∨ (toF (canS m plan S c).2 q.place.room = none ∧ takenB (canS m plan S c).2 t = false ∧ (canS m plan S (c + 1)).2 = (canS m plan S c).2 ++ [(q.place.room, t)] ∧ t = (s.foldl (pickS (canS m plan S c).2 fun t => imgI (imgO l o t)) (-1, (o : Int))).1)) := by
  obtain ⟨o, ho⟩ := getE hc
  obtain ⟨l, hl⟩ := getE (l := m.classes) (i := c) (by have := hpl.1; omega)
  have hop := hpl.2 c hc o l ho hl
  have hinv := canS_inv (S := S) hpl (c := c) (by omega)
  have hnx := canS_next (S := S) ho hl
  by_cases h0 : o < 0
  · rw [if_pos h0] at hnx
    refine .inl ⟨hnx, fun s hs hr => ?_, hinv.2 c (Nat.le_refl _)⟩
    rw [rm_neg ho hl h0] at hr
    have := hR _ (ok.sub s hs _ hr); omega
  obtain ⟨o, rfl⟩ : ∃ n : Nat, o = n := ⟨o.toNat, by omega⟩
  obtain ⟨q, hq⟩ := getE (l := l) (i := o) (by omega)
  rw [if_neg h0, Int.toNat_natCast, hq] at hnx
  dsimp only at hnx
  have hrm := rm_pos ho hl hq
  have hoc : (canS m plan S c).1[c]? = some (o : Int) := by rw [hinv.2 c (Nat.le_refl _), ho]
  by_cases hs : ∃ s ∈ S, q.place.room ∈ s
  · obtain ⟨s, hs, hr⟩ := hs
    obtain ⟨h1, t, h2, h3, h4, h5⟩ := step_in (out := (canS m plan S c).1) (l := l) (o := o) (c := c) hI ok hR (by rw [hinv.1]; exact hc) hs hr
    rw [← hnx] at h1 h3 h4 h5
    refine .inr ⟨o, l, q, s, t, ho, hl, hq, hs, hr, hrm, h2, h1, h3, ?_, h5⟩
    rw [h4, List.getElem?_set_self (by rw [hinv.1]; exact hc)]
  · have hn : ∀ s ∈ S, q.place.room ∉ s := fun s h1 h2 => hs ⟨s, h1, h2⟩
    have := step_out (l := l) (c := c) hI hoc hn
    rw [this] at hnx
    exact .inl ⟨hnx, by rw [hrm]; exact hn, by rw [hoc, ho]⟩
theorem can_inv (hpl : isPlanP m plan) (ok : SetsOk m R S) (hR : ∀ x ∈ R, 0 ≤ x) : ∀ {c : Nat}, c ≤ plan.length → CanI S (canS m plan S c).2
  | 0, _ => CanI.nil
  | c + 1, hc => by
    have ih := can_inv hpl ok hR (c := c) (by omega)
    rcases can_cases hpl ok hR (by omega) ih with ⟨h, _⟩ | ⟨o, l, q, s, t, _, _, _, _, _, _, _, h, _⟩
    · rw [h]; exact ih
    · exact h
noncomputable def canL (m : Model) (plan : List Int) (S : List (List Int)) : List Int := (canS m plan S plan.length).1
theorem canL_at {c : Nat} (hc : c < plan.length) : (canL m plan S)[c]? = (canS m plan S (c + 1)).1[c]? := by
  unfold canL
  obtain ⟨d, hd⟩ : ∃ d, plan.length = c + 1 + d := ⟨plan.length - (c + 1), by omega⟩
  rw [hd]; exact canS_at
theorem canL_len (hpl : isPlanP m plan) : (canL m plan S).length = plan.length := (canS_inv hpl (Nat.le_refl _)).1
theorem canL_out (hpl : isPlanP m plan) (ok : SetsOk m R S) (hR : ∀ x ∈ R, 0 ≤ x) {c : Nat} (hc : c < plan.length) (h : ∀ s ∈ S, rmAt m plan c ∉ s) : (canL m plan S)[c]? = plan[c]? := by
  rw [canL_at hc]
  rcases can_cases hpl ok hR hc (can_inv hpl ok hR (by omega)) with ⟨h1, _, h3⟩ | ⟨o, l, q, s, t, _, _, _, hs, hr, hrm, _⟩
  · rw [h1, h3]
  · exact absurd (hrm ▸ hr) (h s hs)
def plI (s : List Int) (t : Int) : Int := if t ∈ s then ((s.idxOf t : Nat) : Int) else -1
def toA (E : List (Int × Int)) (s : List Int) : List Int := s.map fun x => match toF E x with
  | some t => plI s t
  | none => -1
def tkA (E : List (Int × Int)) (s : List Int) : List Bool := s.map (takenB E)
theorem idx_get {s : List Int} {t : Int} (h : t ∈ s) : s[s.idxOf t]? = some t := by
  rw [List.getElem?_eq_getElem (List.idxOf_lt_length_iff.2 h), List.getElem_idxOf]
theorem idx_nd {s : List Int} (hn : s.Nodup) {t : Int} {i : Nat} (h : s[i]? = some t) : s.idxOf t = i := by
  obtain ⟨hi, rfl⟩ := List.getElem?_eq_some_iff.1 h
  exact hn.idxOf_getElem i hi
theorem map_set_nd {β : Type} {f g : Int → β} {s : List Int} {r : Int} {v : β} (hn : s.Nodup) (hr : r ∈ s) (h1 : g r = v) (h2 : ∀ x ∈ s, x ≠ r → g x = f x) : s.map g = (s.map f).set (s.idxOf r) v := by
  apply List.ext_getElem?
  intro i
  rw [List.getElem?_set, List.getElem?_map, List.getElem?_map, List.length_map]
  split
  · rename_i e; subst e
    rw [if_pos (List.idxOf_lt_length_iff.2 hr), idx_get hr]
    exact congrArg some h1
  · rename_i hne
    cases hs : s[i]? with
    | none => rfl
    | some x =>
      refine congrArg some (h2 x (List.mem_of_getElem? hs) fun e => hne ?_)
      subst e; exact idx_nd hn hs
theorem toA_app {E : List (Int × Int)} {s : List Int} {r b : Int} (hn : s.Nodup) (hr : r ∈ s) (h : toF E r = none) : toA (E ++ [(r, b)]) s = (toA E s).set (s.idxOf r) (plI s b) :=
  map_set_nd hn hr (by rw [to_app h, if_pos rfl]) fun x _ hx => by rw [to_app h, if_neg hx]
theorem tkA_app {E : List (Int × Int)} {s : List Int} {r b : Int} (hn : s.Nodup) (hb : b ∈ s) : tkA (E ++ [(r, b)]) s = (tkA E s).set (s.idxOf b) true :=
  map_set_nd hn hb (by rw [tk_app]; simp) fun x _ hx => by rw [tk_app, decide_eq_false hx, Bool.or_false]
theorem toA_other {E : List (Int × Int)} {s : List Int} {r b : Int} (hr : r ∉ s) (h : toF E r = none) : toA (E ++ [(r, b)]) s = toA E s :=
  List.map_congr_left fun x hx => by rw [to_app h, if_neg fun e : x = r => hr (e ▸ hx)]
theorem tkA_other {E : List (Int × Int)} {s : List Int} {r b : Int} (hb : b ∉ s) : tkA (E ++ [(r, b)]) s = tkA E s :=
  List.map_congr_left fun x hx => by rw [tk_app, decide_eq_false fun e : x = b => hb (e ▸ hx), Bool.or_false]
theorem tabs_stay (hpl : isPlanP m plan) (ok : SetsOk m R S) (hR : ∀ x ∈ R, 0 ≤ x) {c : Nat} (hc : c < plan.length) {s : List Int} (hs : s ∈ S) (h : rmAt m plan c ∉ s) :
    toA (canS m plan S (c + 1)).2 s = toA (canS m plan S c).2 s ∧ tkA (canS m plan S (c + 1)).2 s = tkA (canS m plan S c).2 s := by
  rcases can_cases hpl ok hR hc (can_inv hpl ok hR (by omega)) with ⟨h1, _⟩ | ⟨o, l, q, s', t, _, _, _, hs', hr, hrm, ht, _, _, _, h5⟩
  · rw [h1]; exact ⟨rfl, rfl⟩
  · rw [hrm] at h
    have hts : t ∉ s := fun h2 => h (ok.same hs hs' h2 ht ▸ hr)
    rcases h5 with ⟨_, e⟩ | ⟨h0, _, e, _⟩
    · rw [e]; exact ⟨rfl, rfl⟩
    · rw [e]; exact ⟨toA_other h h0, tkA_other hts⟩
noncomputable def outR (m : Model) (plan : List Int) (S : List (List Int)) (k c : Nat) : List Int := (List.range plan.length).map fun j =>
  if pB ((∃ s ∈ S.take k, rmAt m plan j ∈ s) ∨ (j < c ∧ ∃ s, S[k]? = some s ∧ rmAt m plan j ∈ s)) then (canL m plan S).getD j 0 else plan.getD j 0
theorem outR_len {k c : Nat} : (outR m plan S k c).length = plan.length := by unfold outR; rw [List.length_map, List.length_range]
theorem outR_get {k c j : Nat} (hj : j < plan.length) : (outR m plan S k c)[j]? = some (if pB ((∃ s ∈ S.take k, rmAt m plan j ∈ s) ∨ (j < c ∧ ∃ s, S[k]? = some s ∧ rmAt m plan j ∈ s)) then (canL m plan S).getD j 0 else plan.getD j 0) := by
  unfold outR; rw [List.getElem?_map, List.getElem?_range hj]; rfl
theorem getD_at {l : List Int} {j : Nat} (hj : j < l.length) : l[j]? = some (l.getD j 0) := by
  rw [List.getD_eq_getElem?_getD, List.getElem?_eq_getElem hj]; rfl
theorem outR_zero : outR m plan S 0 0 = plan := by
  apply List.ext_getElem?
  intro j
  rcases Nat.lt_or_ge j plan.length with hj | hj
  · rw [outR_get hj, pB_f, getD_at hj]
    · rfl
    · rintro (⟨s, hs, _⟩ | ⟨h, _⟩)
      · simp at hs
      · omega
  · rw [List.getElem?_eq_none (by rw [outR_len]; exact hj), List.getElem?_eq_none hj]
theorem outR_out {k c : Nat} {s : List Int} (hs : S[k]? = some s) (h : rmAt m plan c ∉ s) : outR m plan S k (c + 1) = outR m plan S k c := by
  unfold outR
  refine List.map_congr_left fun j _ => ?_
  rw [pB_iff]
  constructor
  · rintro (h1 | ⟨h1, s', h2, h3⟩)
    · exact .inl h1
    · rw [hs] at h2; cases h2
      rcases Nat.lt_or_ge j c with h4 | h4
      · exact .inr ⟨h4, s, hs, h3⟩
      · obtain rfl : j = c := by omega
        exact absurd h3 h
  · rintro (h1 | ⟨h1, h2⟩)
    · exact .inl h1
    · exact .inr ⟨by omega, h2⟩
theorem outR_in {k c : Nat} {s : List Int} (hc : c < plan.length) (hs : S[k]? = some s) (h : rmAt m plan c ∈ s) {v : Int} (hv : (canL m plan S)[c]? = some v) : outR m plan S k (c + 1) = (outR m plan S k c).set c v := by
  apply List.ext_getElem?
  intro j
  rcases Nat.lt_or_ge j plan.length with hj | hj
  · by_cases e : c = j
    · subst e
      rw [List.getElem?_set_self (by rw [outR_len]; exact hj), outR_get hj, pB_t (.inr ⟨Nat.lt_succ_self _, s, hs, h⟩), if_pos rfl, List.getD_eq_getElem?_getD, hv]; rfl
    · rw [List.getElem?_set_ne e, outR_get hj, outR_get hj, pB_iff]
      constructor
      · rintro (h1 | ⟨h1, h2⟩)
        · exact .inl h1
        · exact .inr ⟨by omega, h2⟩
      · rintro (h1 | ⟨h1, h2⟩)
        · exact .inl h1
        · exact .inr ⟨by omega, h2⟩
  · rw [List.getElem?_eq_none (by rw [outR_len]; exact hj), List.getElem?_eq_none (by rw [List.length_set, outR_len]; exact hj)]
theorem outR_next {k : Nat} {s : List Int} (hs : S[k]? = some s) : outR m plan S k plan.length = outR m plan S (k + 1) 0 := by
  unfold outR
  refine List.map_congr_left fun j hj => ?_
  rw [pB_iff]
  rw [tk_snoc hs]
  constructor
  · rintro (⟨s', h1, h2⟩ | ⟨_, s', h1, h2⟩)
    · exact .inl ⟨s', List.mem_append.2 (.inl h1), h2⟩
    · rw [hs] at h1; cases h1
      exact .inl ⟨s, List.mem_append.2 (.inr (List.mem_singleton.2 rfl)), h2⟩
  · rintro (⟨s', h1, h2⟩ | ⟨h1, _⟩)
    · rcases List.mem_append.1 h1 with h1 | h1
      · exact .inl ⟨s', h1, h2⟩
      · obtain rfl := List.mem_singleton.1 h1
        exact .inr ⟨List.mem_range.1 hj, s', hs, h2⟩
    · omega
theorem outR_all (hpl : isPlanP m plan) (ok : SetsOk m R S) (hR : ∀ x ∈ R, 0 ≤ x) : outR m plan S S.length 0 = canL m plan S := by
  apply List.ext_getElem?
  intro j
  rcases Nat.lt_or_ge j plan.length with hj | hj
  · rw [outR_get hj, List.take_length]
    by_cases h : ∃ s ∈ S, rmAt m plan j ∈ s
    · rw [pB_t (.inl h), if_pos rfl, getD_at (by rw [canL_len hpl]; exact hj)]
    · rw [pB_f (by rintro (h1 | ⟨h1, _⟩); exact h h1; omega), if_neg (by decide), canL_out hpl ok hR hj fun s h1 h2 => h ⟨s, h1, h2⟩, getD_at hj]
  · rw [List.getElem?_eq_none (by rw [outR_len]; exact hj), List.getElem?_eq_none (by rw [canL_len hpl]; exact hj)]
end
end Go.Proofs.YtihpjcmloecaaaaGreat.Cw
/-
  Symmetry: the least plan that arises from a plan (reference's side).
-/
namespace Go.Proofs.YtihpjcmloecaaaaGreat.Cw
open Go Go.Cw Go.Proofs
set_option linter.unusedVariables false
set_option maxRecDepth 100000
set_option maxHeartbeats 8000000
theorem idx_first {s : List Int} {t : Int} {i : Nat} (h : ∀ j, j < i → ∀ y, s[j]? = some y → ¬ y = t) (hi : s[i]? = some t) : s.idxOf t = i := by
  induction s generalizing i with
  | nil => simp at hi
  | cons a s ih =>
    cases i with
    | zero => simp at hi; subst hi; simp
    | succ i =>
      have ha := h 0 (by omega) a rfl
      rw [List.idxOf_cons]
      simp only [beq_iff_eq, ha, cond_false, beq_eq_false_iff_ne.2 ha]
      have := ih (i := i) (fun j hj y hy => h (j + 1) (Nat.succ_lt_succ hj) y (by simpa using hy)) (by simpa using hi)
      omega
theorem c_place (s : List Int) (t : Int) (hs : s.length ≤ 100000) : PCall Tryz.prog 49 [.pv (.sl 1 (s.map intRow)), vint .i64 t] (fun r => r = vint .i64 (plI s t)) := by
  refine acall_of tok mixed 19 rfl (fn := Tryz.f49) (c := Tryz.f49.body.getD .skip) (by kernel_rfl) (by kernel_rfl) (by kernel_rfl) rfl 0 rfl ?_
  repeat' (first | refine o1 ?_ | refine o2 ?_ | refine k1 ?_ | refine k2 ?_ | refine k4 ?_ | fail)
  refine loop_for (fun i : Nat => [(0, .pv (.sl 1 (s.map intRow))), (1, vint .i64 t), (5, vint .i64 i)]) (fun _ => []) (fun i => i ≤ s.length ∧ ∀ j, j < i → ∀ y, s[j]? = some y → ¬ y = t) (fun i => s.length - i) 0 ⟨Nat.zero_le _, fun j hj => absurd hj (Nat.not_lt_zero _)⟩ ?_ ?_
  · exact back [] rfl rfl trivial (by repeat' (first | exact trivial | exact rfl | refine And.intro ?_ ?_))
  rintro i ⟨hi, hn⟩
  rcases Nat.lt_or_ge i s.length with hlt | hge
  · obtain ⟨x, hx⟩ := getE hlt
    by_cases hxt : x = t
    · have e : plI s t = i := by unfold plI; rw [if_pos (hxt ▸ List.mem_of_getElem? hx), idx_first hn (hxt ▸ hx)]
      rw [e]
      repeat' (first | (refine idx_sl (k := i) (at_map hx) (by omega) ?_) | refine o1 ?_ | refine o2 ?_ | refine k1 ?_ | refine k2 ?_ | refine k3 ?_ | refine k4 ?_ | refine k6 ?_ | refine k7 ?_ | refine And.intro ?_ ?_ | (intro h; first | exact Bool.noConfusion h | exact nz _ h | exact nl h | (simp at h; done) | (simp at h; first | (exfalso; omega) | skip) | skip) | (change retOk _ _ _ _; refine ret_pure rfl trivial ?_) | refine eqv_len_map ?_ | fail)
      all_goals first
        | (exfalso; omega)
        | rfl
    · repeat' (first | (refine idx_sl (k := i) (at_map hx) (by omega) ?_) | refine o1 ?_ | refine o2 ?_ | refine k1 ?_ | refine k2 ?_ | refine k3 ?_ | refine k4 ?_ | refine k6 ?_ | refine And.intro ?_ ?_ | (intro h; first | exact Bool.noConfusion h | exact nz _ h | exact nl h | (simp at h; done) | (simp at h; first | (exfalso; omega) | skip) | skip) | refine eqv_len_map ?_ | refine eqv_wrap (by omega) (by omega) ?_ | fail)
      all_goals first
        | (exfalso; omega)
        | exact ⟨i + 1, ⟨by omega, fun j hj y hy => by
            rcases Nat.lt_or_ge j i with h1 | h1
            · exact hn j h1 y hy
            · obtain rfl : j = i := by omega
              rw [hx] at hy; cases hy; exact hxt⟩, by omega, back [] rfl rfl trivial (by repeat' (first | exact trivial | exact rfl | refine And.intro ?_ ?_))⟩
  · have e : plI s t = -1 := by
      unfold plI
      rw [if_neg fun h => by obtain ⟨j, hj⟩ := List.getElem?_of_mem h; exact hn j (by have := (List.getElem?_eq_some_iff.1 hj).1; omega) t hj rfl]
    rw [e]
    repeat' (first | refine o1 ?_ | refine o2 ?_ | refine k1 ?_ | refine k2 ?_ | refine k3 ?_ | refine k7 ?_ | refine k8 ?_ | refine And.intro ?_ ?_ | (intro h; first | exact Bool.noConfusion h | exact nz _ h | exact nl h | (simp at h; done) | (simp at h; first | (exfalso; omega) | skip) | skip) | (change retOk _ _ _ _; refine ret_pure rfl trivial ?_) | refine eqv_len_map ?_ | fail)
    all_goals first
      | (exfalso; omega)
      | rfl
def bI (s : List Int) (b : Int) : Int := if b < 0 then -1 else plI s b
theorem rep_step {α : Type} {a b : α} {n i : Nat} (h : i < n) : (List.replicate i a ++ List.replicate (n - i) b).set i a = List.replicate (i + 1) a ++ List.replicate (n - (i + 1)) b := by
  obtain ⟨d, hd⟩ : ∃ d, n - i = d + 1 := ⟨n - i - 1, by omega⟩
  rw [hd, show n - (i + 1) = d by omega, List.set_append, if_neg (by simp), List.length_replicate, Nat.sub_self, List.replicate_succ, List.set_cons_zero, List.replicate_succ', List.append_assoc]; rfl
theorem c_rcanon0 (m : Model) (plan : List Int) (hl : Laid m) (hp : modelE m = 0 → PCall Tryz.prog 48 [ag m.cells, .pv (encInts plan)] (fun r => r = vbool (pB (isPlanP m plan)))) : PCall Tryz.prog 20 [ag m.cells, .pv (encInts plan)] (fun r => Leq r (.tup [.pv (.sl 1 ((canR m plan).map intRow)), vint .i64 (canE m plan)])) := by
  have hv := c_rvalid m hl
  by_cases hok : modelE m = 0
  · have hz := model_sized hok
    have hp := hp hok
    rw [hok] at hv
    by_cases hpl : isPlanP m plan
    · rw [pB_t hpl] at hp
      have hR := c_rRooms m hl
      have hSo := setsV_ok hok
      have hR0 : ∀ x ∈ roomsV m, 0 ≤ x := fun x hx => ((rooms_spec m).1 x).1 hx |>.1
      have e1 : canE m plan = 0 := by unfold canE; rw [if_pos hok, pB_t hpl]; rfl
      have e2 : canR m plan = canL m plan (setsV m) := by unfold canR; rw [if_pos e1]; rfl
      rw [e1, e2]
      have hSl := setsV_len (m := m)
      have hSe : m.classes = [] → setsV m = [] := fun h => by
        unfold setsV; rw [if_pos hok]
        have : roomsV m = [] := by
          have h1 := compactI_len (sortI (roomsR m.classes))
          rw [sortI_len, h] at h1
          unfold roomsV; rw [h]; exact List.eq_nil_of_length_eq_zero (Nat.le_zero.1 h1)
        rw [this]; rfl
      generalize setsV m = S at *
      generalize roomsV m = RV at *
      have hn24 : plan.length ≤ 24 := by have := hpl.1; have := hz.1; omega
      rcases Nat.eq_zero_or_pos plan.length with hpn | hpn
      · have hSn : S = [] := by
          have hc0 : m.classes = [] := List.eq_nil_of_length_eq_zero (by rw [← hpl.1]; exact hpn)
          exact hSe hc0
        obtain rfl : plan = [] := List.eq_nil_of_length_eq_zero hpn
        subst hSn
        have e3 : canL m [] [] = [] := rfl
        rw [e3]
        refine acall_of tok mixed 154 rfl (fn := Tryz.f20) (c := Tryz.f20.body.getD .skip) (by kernel_rfl) (by kernel_rfl) (by kernel_rfl) rfl 0 rfl ?_
        repeat' (first | ((change vcFun _ _ _ _ _; refine call_frz rfl (by repeat' (first | trivial | refine And.intro ?_ ?_ | (show 0 + _ ≤ List.length _; simp))) ALeL.refl hR ?_; rintro _ rfl)) | refine o1 ?_ | refine o2 ?_ | refine k1 ?_ | refine k2 ?_ | refine k3 ?_ | refine k4 ?_ | refine k6 ?_ | refine And.intro ?_ ?_ | (intro h; first | exact Bool.noConfusion h | exact nz _ h | exact nl h | (simp at h; done) | (simp at h; first | (exfalso; omega) | skip) | skip) | (refine (?_ : srcLen _ = rowsLen _); rfl) | exact Nat.le_of_ble_eq_true rfl | (change vcFun _ _ _ _ _; refine call_eq rfl (by repeat' (first | trivial | refine And.intro ?_ ?_ | (show 0 + _ ≤ List.length _; simp))) ALeL.refl (hv) rfl ?_) | (change vcFun _ _ _ _ _; refine call_eq rfl (by repeat' (first | trivial | refine And.intro ?_ ?_ | (show 0 + _ ≤ List.length _; simp))) ALeL.refl (hp) rfl ?_) | fail)
        refine loop_for (fun _ : Unit => [(7, .pv (.val (.slice none 0 0))), (8, .pv (.sl 1 (([] : List (List Int)).map lstRow))), (9, vint .i64 (0 : Nat))]) (fun _ => []) (fun _ => True) (fun _ => 0) () trivial ?_ ?_
        · exact back [] rfl rfl trivial (by repeat' (first | exact trivial | exact rfl | refine And.intro ?_ ?_))
        intro _ _
        repeat' (first | refine o1 ?_ | refine o2 ?_ | refine k1 ?_ | refine k2 ?_ | refine k3 ?_ | refine k7 ?_ | refine k8 ?_ | refine And.intro ?_ ?_ | (intro h; first | exact Bool.noConfusion h | exact nz _ h | exact nl h | (simp at h; done) | (simp at h; first | (exfalso; omega) | skip) | skip) | (change retOk _ _ _ _; refine ret_pure rfl trivial ?_) | refine eqv_len_map ?_ | fail)
        exact ⟨ALe.tup ⟨ALe.pv PLe.nil, ALe.refl, trivial⟩⟩
      refine acall_of tok mixed 154 rfl (fn := Tryz.f20) (c := Tryz.f20.body.getD .skip) (by kernel_rfl) (by kernel_rfl) (by kernel_rfl) rfl 0 rfl ?_
      repeat' (first | ((change vcFun _ _ _ _ _; refine call_frz rfl (by repeat' (first | trivial | refine And.intro ?_ ?_ | (show 0 + _ ≤ List.length _; simp))) ALeL.refl hR ?_; rintro _ rfl)) | (refine eqv_to (Rows.p (plan.map intRow)) rfl (eqv_to plan.length (by simp [rowsLen]) ?_)) | refine o1 ?_ | refine o2 ?_ | refine k1 ?_ | refine k2 ?_ | refine k3 ?_ | refine k4 ?_ | refine k6 ?_ | refine And.intro ?_ ?_ | (intro h; first | exact Bool.noConfusion h | exact nz _ h | exact nl h | (simp at h; done) | (simp at h; first | (exfalso; omega) | skip) | skip) | (refine (?_ : srcLen _ = rowsLen _); rfl) | (refine (?_ : _ ≤ 140737488355328); simp [rowsLen] <;> omega) | (refine (?_ : _ ≤ 9223372036854775807); simp [rowsLen] <;> omega) | (change vcFun _ _ _ _ _; refine call_eq rfl (by repeat' (first | trivial | refine And.intro ?_ ?_ | (show 0 + _ ≤ List.length _; simp))) ALeL.refl (hv) rfl ?_) | (change vcFun _ _ _ _ _; refine call_eq rfl (by repeat' (first | trivial | refine And.intro ?_ ?_ | (show 0 + _ ≤ List.length _; simp))) ALeL.refl (hp) rfl ?_) | fail)
      all_goals first
        | (exfalso; have hh := ‹rowsLen _ = 0›; simp [rowsLen] at hh; subst hh; simp at hpn; done)
        | skip
      refine loop_for (fun k : Nat => [(1, .pv (encInts plan)), (2, .ptr 0 4 0 0), (7, .ms 1 1 0 plan.length), (8, .pv (.sl 1 (S.map lstRow))), (9, vint .i64 k)]) (fun k => [mdlO m, some ⟨3, 1, false, .p ((outR m plan S k 0).map intRow)⟩])
        (fun k => k ≤ S.length) (fun k => S.length - k) 0 (Nat.zero_le _) ?_ ?_
      · rw [outR_zero]
        exact back [0, 1] rfl rfl ⟨rfl, rfl, trivial⟩ (by repeat' (first | exact trivial | exact rfl | refine And.intro ?_ ?_))
      intro k hk
      rcases Nat.lt_or_ge k S.length with hkl | hkg
      · obtain ⟨s, hs⟩ := getE hkl
        have hsS := List.mem_of_getElem? hs
        have hsl := hSl.2 s hsS
        have hol := outR_len (m := m) (plan := plan) (S := S) (k := k) (c := 0)
        dsimp only [mdlO]
        have hO0 : (outR m plan S k 0).length = plan.length := hol
        repeat' (first | (refine idx_sl (k := k) (at_map hs) (by omega) ?_) | (refine ⟨s.length, s.length, rfl, rfl, Nat.le_refl _, (by omega), (by omega), ?_⟩) | (refine eqv_to ((List.replicate s.length 0).map intRow) (by rw [List.map_replicate]; rfl) ?_) | (refine eqv_to ((List.replicate s.length false).map boolRow) (by rw [List.map_replicate]; rfl) ?_) | refine o1 ?_ | refine o2 ?_ | refine k1 ?_ | refine k2 ?_ | refine k3 ?_ | refine k4 ?_ | refine k6 ?_ | refine And.intro ?_ ?_ | (intro h; first | exact Bool.noConfusion h | exact nz _ h | exact nl h | (simp at h; done) | (simp at h; first | (exfalso; omega) | skip) | skip) | exact (by kernel_rfl : drawOk _ _ = true) | refine eqv_len_map ?_ | fail)
        refine loop_for (fun i : Nat => [(1, .pv (encInts plan)), (2, .ptr 0 4 0 0), (7, .ms 1 1 0 plan.length), (8, .pv (.sl 1 (S.map lstRow))), (9, vint .i64 k), (10, .pv (.sl 1 (s.map intRow))), (11, .ms 2 1 0 s.length), (12, .ms 3 1 0 s.length), (13, vint .i64 i)]) (fun i => [mdlO m, some ⟨3, 1, false, .p ((outR m plan S k 0).map intRow)⟩, some ⟨3, 1, false, .p ((List.replicate i (-1) ++ List.replicate (s.length - i) 0).map intRow)⟩, some ⟨4, 1, false, .p ((List.replicate s.length false).map boolRow)⟩])
          (fun i => i ≤ s.length) (fun i => s.length - i) 0 (Nat.zero_le _) ?_ ?_
        · exact back [0, 1, 2, 3] rfl rfl ⟨rfl, rfl, rfl, rfl, trivial⟩ (by repeat' (first | exact trivial | exact rfl | refine And.intro ?_ ?_))
        intro i hi
        rcases Nat.lt_or_ge i s.length with hil | hig
        · have hst := rep_step (a := (-1 : Int)) (b := 0) hil
          have hln : (List.replicate i (-1 : Int) ++ List.replicate (s.length - i) 0).length = s.length := by simp; omega
          generalize List.replicate i (-1 : Int) ++ List.replicate (s.length - i) 0 = TO at *
          obtain ⟨x, hx⟩ := getE (l := TO) (i := i) (by omega)
          repeat' (first | refine o1 ?_ | refine o2 ?_ | refine k1 ?_ | refine k2 ?_ | refine k3 ?_ | refine k4 ?_ | refine k6 ?_ | refine And.intro ?_ ?_ | (intro h; first | exact Bool.noConfusion h | exact nz _ h | exact nl h | (simp at h; done) | (simp at h; first | (exfalso; omega) | skip) | skip) | exact Nat.le_of_ble_eq_true rfl | refine eqv_zero ?_ | refine eqv_wrap (by omega) (by omega) ?_ | refine eqv_to _ (set_map rfl rfl) ?_ | refine ⟨_, at_map (by assumption), ?_⟩ | refine idx_ms _ (by first | rfl | assumption) (by first | assumption | omega) ?_ | fail)
          exact ⟨i + 1, by omega, by omega, (by rw [← hst]; exact back [0, 1, 2, 3] rfl rfl ⟨rfl, rfl, rfl, rfl, trivial⟩ (by repeat' (first | exact trivial | exact rfl | refine And.intro ?_ ?_)))⟩
        obtain rfl : i = s.length := by omega
        have hta : List.replicate s.length (-1 : Int) ++ List.replicate (s.length - s.length) 0 = toA (canS m plan S 0).2 s := by
          rw [Nat.sub_self, List.replicate_zero, List.append_nil]; exact (List.map_const ..).symm
        have htb : List.replicate s.length false = tkA (canS m plan S 0).2 s := (List.map_const ..).symm
        rw [hta, htb]
        have hnd := hSo.nd s hsS
        have htal : ∀ c, (toA (canS m plan S c).2 s).length = s.length := fun c => List.length_map ..
        have htbl : ∀ c, (tkA (canS m plan S c).2 s).length = s.length := fun c => List.length_map ..
        have h0a := htal 0
        have h0b := htbl 0
        repeat' (first | refine o1 ?_ | refine o2 ?_ | refine k1 ?_ | refine k2 ?_ | refine k3 ?_ | refine k4 ?_ | refine k8 ?_ | refine And.intro ?_ ?_ | (intro h; first | exact Bool.noConfusion h | exact nz _ h | exact nl h | (simp at h; done) | (simp at h; first | (exfalso; omega) | skip) | skip) | fail)
        refine loop_for (fun c : Nat => [(1, .pv (encInts plan)), (2, .ptr 0 4 0 0), (7, .ms 1 1 0 plan.length), (8, .pv (.sl 1 (S.map lstRow))), (9, vint .i64 k), (10, .pv (.sl 1 (s.map intRow))), (11, .ms 2 1 0 s.length), (12, .ms 3 1 0 s.length), (14, vint .i64 c)]) (fun c => [mdlO m, some ⟨3, 1, false, .p ((outR m plan S k c).map intRow)⟩, some ⟨3, 1, false, .p ((toA (canS m plan S c).2 s).map intRow)⟩, some ⟨4, 1, false, .p ((tkA (canS m plan S c).2 s).map boolRow)⟩])
          (fun c => c ≤ plan.length) (fun c => plan.length - c) 0 (Nat.zero_le _) ?_ ?_
        · exact back [0, 1, 2, 3] rfl rfl ⟨rfl, rfl, rfl, rfl, trivial⟩ (by repeat' (first | exact trivial | exact rfl | refine And.intro ?_ ?_))
        intro c hc
        rcases Nat.lt_or_ge c plan.length with hcl | hcg
        · have hI := can_inv hpl hSo hR0 (S := S) (c := c) (by omega)
          have hta := htal c
          have htb := htbl c
          have hol := outR_len (m := m) (plan := plan) (S := S) (k := k) (c := c)
          by_cases hin : rmAt m plan c ∈ s
          · rcases can_cases hpl hSo hR0 hcl hI with ⟨_, hno, _⟩ | ⟨o, l, q, s', t, ho, hll, hq, hs', hr', hrm, ht', hI', hto', hv', h5⟩
            · exact absurd hin (hno s hsS)
            have hrs : q.place.room ∈ s := hrm ▸ hin
            obtain rfl := hSo.same hs' hsS hr' hrs
            have hcan : (canL m plan S)[c]? = some (imgI (imgO l o t)) := (canL_at hcl).trans hv'
            have hin2 := outR_in (k := k) hcl hs hin hcan
            have hln := hz.2.1 l (List.mem_of_getElem? hll)
            have hol2 := (List.getElem?_eq_some_iff.1 hq).1
            have hmv : ∀ u ∈ s', PCall Tryz.prog 36 [.pv (.sl 6 (l.map Opt.row)), vint .i64 o, vint .i64 u] (fun x => x = vint .i64 (imgI (imgO l o u))) := fun u hu => by
              obtain ⟨j, hj⟩ := img_set hSo hsS hu (List.mem_of_getElem? hll) hq hrs
              have := c_moved l o u (by omega) hol2
              rw [hj] at this ⊢; exact this
            have hplc := c_place s' q.place.room (by omega)
            have e1 : plI s' q.place.room = (s'.idxOf q.place.room : Nat) := by unfold plI; rw [if_pos hrs]
            have hpt := idx_get hrs
            have hpl2 : s'.idxOf q.place.room < s'.length := List.idxOf_lt_length_iff.2 hrs
            have hut := idx_get ht'
            have hul2 : s'.idxOf t < s'.length := List.idxOf_lt_length_iff.2 ht'
            have e2 : plI s' t = (s'.idxOf t : Nat) := by unfold plI; rw [if_pos ht']
            have htap : (toA (canS m plan S c).2 s')[s'.idxOf q.place.room]? = some (match toF (canS m plan S c).2 q.place.room with | some t => plI s' t | none => -1) := by
              unfold toA; rw [List.getElem?_map, hpt]; rfl
            have htat : (toA (canS m plan S (c + 1)).2 s')[s'.idxOf q.place.room]? = some ((s'.idxOf t : Nat) : Int) := by
              unfold toA; rw [List.getElem?_map, hpt]; show some (match toF (canS m plan S (c + 1)).2 q.place.room with | some t => plI s' t | none => -1) = _
              rw [hto']; exact congrArg some e2
            rw [e1] at hplc
            generalize hpp : s'.idxOf q.place.room = p at *
            generalize huu : s'.idxOf t = u at *
            obtain ⟨v0, hv0⟩ := getE (l := outR m plan S k c) (i := c) (by omega)
            rcases h5 with ⟨h6, h7⟩ | ⟨h6, h7, h8, h9⟩
            · rw [h6] at htap
              dsimp only at htap
              rw [e2] at htap
              rw [h7] at htat
              repeat' (first | (refine idx_sl (k := c) (at_map ho) (by omega) ?_) | (refine idx_sl (k := c) (at_map hll) (by omega) ?_) | (refine idx_sl (k := o) (at_map hq) (by omega) ?_) | (refine ⟨_, at_map htap, ?_⟩) | (refine idx_sl (k := u) (at_map hut) (by omega) ?_) | (refine ⟨_, at_map hv0, (Nat.le_of_ble_eq_true rfl), ?_⟩) | refine o1 ?_ | refine o2 ?_ | refine k1 ?_ | refine k2 ?_ | refine k3 ?_ | refine k4 ?_ | refine k6 ?_ | refine And.intro ?_ ?_ | refine o3 ?_ | refine o4 ?_ | (intro h; first | exact Bool.noConfusion h | exact nz _ h | exact nl h | (simp at h; done) | (simp at h; first | (exfalso; omega) | skip) | skip) | exact (by kernel_rfl : drawOk _ _ = true) | refine eqv_len_map ?_ | refine eqv_zero ?_ | refine eqv_wrap (by omega) (by omega) ?_ | refine eqv_to _ (set_map rfl rfl) ?_ | refine idx_ms _ (by first | rfl | assumption) (by first | assumption | omega) ?_ | (change vcFun _ _ _ _ _; refine call_eq rfl (by repeat' (first | trivial | refine And.intro ?_ ?_ | (show 0 + _ ≤ List.length _; simp))) ALeL.refl (hplc) rfl ?_) | (change vcFunD _ _ _ _ _; refine callD_eq rfl (by repeat' (first | trivial | refine And.intro ?_ ?_ | (show 0 + _ ≤ List.length _; simp))) ALeL.refl (hmv t ht') rfl ?_) | fail)
              all_goals first
                | (exfalso; omega)
                | exact ⟨c + 1, by omega, by omega, (by rw [hin2, h7]; exact back [0, 1, 2, 3] rfl rfl ⟨rfl, rfl, rfl, rfl, trivial⟩ (by repeat' (first | exact trivial | exact rfl | refine And.intro ?_ ?_)))⟩
            · rw [h6] at htap
              dsimp only at htap
              repeat' (first | (refine idx_sl (k := c) (at_map ho) (by omega) ?_) | (refine idx_sl (k := c) (at_map hll) (by omega) ?_) | (refine idx_sl (k := o) (at_map hq) (by omega) ?_) | (refine ⟨_, at_map htap, ?_⟩) | refine o1 ?_ | refine o2 ?_ | refine k1 ?_ | refine k2 ?_ | refine k3 ?_ | refine k4 ?_ | refine k6 ?_ | refine And.intro ?_ ?_ | (intro h; first | exact Bool.noConfusion h | exact nz _ h | exact nl h | (simp at h; done) | (simp at h; first | (exfalso; omega) | skip) | skip) | refine eqv_len_map ?_ | refine eqv_zero ?_ | refine idx_ms _ (by first | rfl | assumption) (by first | assumption | omega) ?_ | (change vcFun _ _ _ _ _; refine call_eq rfl (by repeat' (first | trivial | refine And.intro ?_ ?_ | (show 0 + _ ≤ List.length _; simp))) ALeL.refl (hplc) rfl ?_) | fail)
              refine loop_for (fun z : Nat => [(1, .pv (encInts plan)), (2, .ptr 0 4 0 0), (7, .ms 1 1 0 plan.length), (8, .pv (.sl 1 (S.map lstRow))), (9, vint .i64 k), (10, .pv (.sl 1 (s'.map intRow))), (11, .ms 2 1 0 s'.length), (12, .ms 3 1 0 s'.length), (14, vint .i64 c), (15, .pv (.sl 6 (l.map Opt.row))), (16, vint .i64 p), (17, vint .i64 (bI s' ((s'.take z).foldl (pickS (canS m plan S c).2 fun t => imgI (imgO l o t)) (-1, (o : Int))).1)), (18, vint .i64 z)])
                (fun _ => [mdlO m, some ⟨3, 1, false, .p ((outR m plan S k c).map intRow)⟩, some ⟨3, 1, false, .p ((toA (canS m plan S c).2 s').map intRow)⟩, some ⟨4, 1, false, .p ((tkA (canS m plan S c).2 s').map boolRow)⟩])
                (fun z => z ≤ s'.length) (fun z => s'.length - z) 0 (Nat.zero_le _) ?_ ?_
              · exact back [0, 1, 2, 3] rfl rfl ⟨rfl, rfl, rfl, rfl, trivial⟩ (by repeat' (first | exact trivial | exact rfl | refine And.intro ?_ ?_))
              intro z hzl
              have hs0 : ∀ y ∈ s', 0 ≤ y := fun y hy => hR0 y (hSo.sub s' hsS y hy)
              rcases Nat.lt_or_ge z s'.length with hzl2 | hzg
              · obtain ⟨y, hy⟩ := getE hzl2
                have hys := List.mem_of_getElem? hy
                have hy0 := hs0 y hys
                have hyi := idx_nd hnd hy
                have hst : (s'.take (z + 1)).foldl (pickS (canS m plan S c).2 fun t => imgI (imgO l o t)) (-1, (o : Int)) = pickS (canS m plan S c).2 (fun t => imgI (imgO l o t)) ((s'.take z).foldl (pickS (canS m plan S c).2 fun t => imgI (imgO l o t)) (-1, (o : Int))) y := by rw [tk_snoc hy, List.foldl_append]; rfl
                have hpi := pick_in (E := (canS m plan S c).2) (g := fun t => imgI (imgO l o t)) (l := s'.take z) (st := (-1, (o : Int)))
                have htk : (tkA (canS m plan S c).2 s')[z]? = some (takenB (canS m plan S c).2 y) := by unfold tkA; rw [List.getElem?_map, hy]; rfl
                have hbi : bI s' y = (z : Nat) := by unfold bI plI; rw [if_neg (by omega), if_pos hys, hyi]
                generalize (s'.take z).foldl (pickS (canS m plan S c).2 fun t => imgI (imgO l o t)) (-1, (o : Int)) = st0 at *
                obtain ⟨b, x⟩ := st0
                dsimp only at hst hpi ⊢
                have hpi : (b < 0) ∨ (b ∈ s' ∧ x = imgI (imgO l o b)) := by
                  rcases hpi with h | ⟨h1, h2⟩
                  · injection h with h1 h2; exact .inl (by omega)
                  · exact .inr ⟨List.mem_of_mem_take h1, h2⟩
                cases hty : takenB (canS m plan S c).2 y
                · rw [hty] at htk
                  rcases Int.lt_or_le b 0 with hb0 | hb0
                  · rw [pickS_put hty (.inl hb0)] at hst
                    have hbb : bI s' b = -1 := by unfold bI; rw [if_pos hb0]
                    rw [hbb]
                    repeat' (first | (refine ⟨_, at_map htk, ?_⟩) | refine o1 ?_ | refine o2 ?_ | refine k1 ?_ | refine k2 ?_ | refine k3 ?_ | refine k4 ?_ | refine k6 ?_ | refine And.intro ?_ ?_ | refine o3 ?_ | refine o4 ?_ | (intro h; first | exact Bool.noConfusion h | exact nz _ h | exact nl h | (simp at h; done) | (simp at h; first | (exfalso; omega) | skip) | skip) | exact (by kernel_rfl : drawOk _ _ = true) | refine eqv_len_map ?_ | refine eqv_zero ?_ | refine eqv_wrap (by omega) (by omega) ?_ | refine idx_ms _ (by first | rfl | assumption) (by first | assumption | omega) ?_ | fail)
                    all_goals first
                      | (exfalso; omega)
                      | exact ⟨z + 1, by omega, by omega, (by rw [hst]; dsimp only; rw [hbi]; exact back [0, 1, 2, 3] rfl rfl ⟨rfl, rfl, rfl, rfl, trivial⟩ (by repeat' (first | exact trivial | exact rfl | refine And.intro ?_ ?_)))⟩
                  · obtain ⟨hbs, hbx⟩ := hpi.elim (fun h => by omega) id
                    have hbb : bI s' b = (s'.idxOf b : Nat) := by unfold bI plI; rw [if_neg (by omega), if_pos hbs]
                    have hbg := idx_get hbs
                    have hbl : s'.idxOf b < s'.length := List.idxOf_lt_length_iff.2 hbs
                    rw [hbb]
                    generalize s'.idxOf b = ub at *
                    have hm1 := hmv y hys
                    have hm2 := hmv b hbs
                    rw [← hbx] at hm2
                    by_cases hlt : imgI (imgO l o y) < x
                    · rw [pickS_put hty (.inr hlt)] at hst
                      repeat' (first | (refine ⟨_, at_map htk, ?_⟩) | (refine idx_sl (k := c) (at_map ho) (by omega) ?_) | (refine idx_sl (k := z) (at_map hy) (by omega) ?_) | (refine idx_sl (k := ub) (at_map hbg) (by omega) ?_) | refine o1 ?_ | refine o2 ?_ | refine k1 ?_ | refine k2 ?_ | refine k3 ?_ | refine k4 ?_ | refine k6 ?_ | refine And.intro ?_ ?_ | refine o3 ?_ | refine o4 ?_ | (intro h; first | exact Bool.noConfusion h | exact nz _ h | exact nl h | (simp at h; done) | (simp at h; first | (exfalso; omega) | skip) | skip) | exact (by kernel_rfl : drawOk _ _ = true) | refine eqv_len_map ?_ | refine eqv_zero ?_ | refine eqv_wrap (by omega) (by omega) ?_ | refine idx_ms _ (by first | rfl | assumption) (by first | assumption | omega) ?_ | (change vcFunD _ _ _ _ _; refine callD_eq rfl (by repeat' (first | trivial | refine And.intro ?_ ?_ | (show 0 + _ ≤ List.length _; simp))) ALeL.refl (hm1) rfl ?_) | (change vcFunD _ _ _ _ _; refine callD_eq rfl (by repeat' (first | trivial | refine And.intro ?_ ?_ | (show 0 + _ ≤ List.length _; simp))) ALeL.refl (hm2) rfl ?_) | fail)
                      all_goals first
                        | (exfalso; omega)
                        | exact ⟨z + 1, by omega, by omega, (by rw [hst]; dsimp only; rw [hbi]; exact back [0, 1, 2, 3] rfl rfl ⟨rfl, rfl, rfl, rfl, trivial⟩ (by repeat' (first | exact trivial | exact rfl | refine And.intro ?_ ?_)))⟩
                    · rw [pickS_skip hty (by show ¬ (b < 0 ∨ imgI (imgO l o y) < x); omega)] at hst
                      repeat' (first | (refine ⟨_, at_map htk, ?_⟩) | (refine idx_sl (k := c) (at_map ho) (by omega) ?_) | (refine idx_sl (k := z) (at_map hy) (by omega) ?_) | (refine idx_sl (k := ub) (at_map hbg) (by omega) ?_) | refine o1 ?_ | refine o2 ?_ | refine k1 ?_ | refine k2 ?_ | refine k3 ?_ | refine k4 ?_ | refine k6 ?_ | refine And.intro ?_ ?_ | refine o3 ?_ | refine o4 ?_ | (intro h; first | exact Bool.noConfusion h | exact nz _ h | exact nl h | (simp at h; done) | (simp at h; first | (exfalso; omega) | skip) | skip) | exact (by kernel_rfl : drawOk _ _ = true) | refine eqv_len_map ?_ | refine eqv_zero ?_ | refine eqv_wrap (by omega) (by omega) ?_ | refine idx_ms _ (by first | rfl | assumption) (by first | assumption | omega) ?_ | (change vcFunD _ _ _ _ _; refine callD_eq rfl (by repeat' (first | trivial | refine And.intro ?_ ?_ | (show 0 + _ ≤ List.length _; simp))) ALeL.refl (hm1) rfl ?_) | (change vcFunD _ _ _ _ _; refine callD_eq rfl (by repeat' (first | trivial | refine And.intro ?_ ?_ | (show 0 + _ ≤ List.length _; simp))) ALeL.refl (hm2) rfl ?_) | fail)
                      all_goals first
                        | (exfalso; omega)
                        | exact ⟨z + 1, by omega, by omega, (by rw [hst]; dsimp only; rw [hbb]; exact back [0, 1, 2, 3] rfl rfl ⟨rfl, rfl, rfl, rfl, trivial⟩ (by repeat' (first | exact trivial | exact rfl | refine And.intro ?_ ?_)))⟩
                · rw [hty] at htk
                  rw [pickS_taken hty] at hst
                  repeat' (first | (refine ⟨_, at_map htk, ?_⟩) | refine o1 ?_ | refine o2 ?_ | refine k1 ?_ | refine k2 ?_ | refine k3 ?_ | refine k4 ?_ | refine k6 ?_ | refine And.intro ?_ ?_ | refine o3 ?_ | refine o4 ?_ | (intro h; first | exact Bool.noConfusion h | exact nz _ h | exact nl h | (simp at h; done) | (simp at h; first | (exfalso; omega) | skip) | skip) | exact (by kernel_rfl : drawOk _ _ = true) | refine eqv_len_map ?_ | refine eqv_zero ?_ | refine eqv_wrap (by omega) (by omega) ?_ | refine idx_ms _ (by first | rfl | assumption) (by first | assumption | omega) ?_ | fail)
                  all_goals first
                    | (exfalso; omega)
                    | exact ⟨z + 1, by omega, by omega, (by rw [hst]; exact back [0, 1, 2, 3] rfl rfl ⟨rfl, rfl, rfl, rfl, trivial⟩ (by repeat' (first | exact trivial | exact rfl | refine And.intro ?_ ?_)))⟩
              · obtain rfl : z = s'.length := by omega
                rw [List.take_length, ← h9]
                have hbi : bI s' t = (u : Nat) := by unfold bI; rw [if_neg (by have := hs0 t ht'; omega), e2]
                rw [hbi]
                have hA := toA_app (b := t) hnd hrs h6
                have hB := tkA_app (E := (canS m plan S c).2) (r := q.place.room) hnd ht'
                rw [hpp, e2] at hA
                rw [huu] at hB
                obtain ⟨bu, hbu⟩ := getE (l := tkA (canS m plan S c).2 s') (i := u) (by omega)
                have hset : ((toA (canS m plan S c).2 s').set p ((u : Nat) : Int))[p]? = some ((u : Nat) : Int) := by rw [List.getElem?_set_self (by omega)]
                have hm1 := hmv t ht'
                repeat' (first | (refine ⟨_, at_map hset, ?_⟩) | (refine ⟨_, at_map htap, (Nat.le_of_ble_eq_true rfl), ?_⟩) | (refine ⟨_, at_map hbu, (Nat.le_of_ble_eq_true rfl), ?_⟩) | (refine ⟨_, at_map hv0, (Nat.le_of_ble_eq_true rfl), ?_⟩) | (refine idx_sl (k := c) (at_map ho) (by omega) ?_) | (refine idx_sl (k := u) (at_map hut) (by omega) ?_) | refine o1 ?_ | refine o2 ?_ | refine k1 ?_ | refine k2 ?_ | refine k3 ?_ | refine k8 ?_ | refine And.intro ?_ ?_ | refine o3 ?_ | refine o4 ?_ | (intro h; first | exact Bool.noConfusion h | exact nz _ h | exact nl h | (simp at h; done) | (simp at h; first | (exfalso; omega) | skip) | skip) | exact (by kernel_rfl : drawOk _ _ = true) | refine eqv_len_map ?_ | refine eqv_zero ?_ | refine eqv_wrap (by omega) (by omega) ?_ | refine eqv_to _ (set_map rfl rfl) ?_ | refine idx_ms _ (by first | rfl | assumption) (by first | assumption | omega) ?_ | (change vcFunD _ _ _ _ _; refine callD_eq rfl (by repeat' (first | trivial | refine And.intro ?_ ?_ | (show 0 + _ ≤ List.length _; simp))) ALeL.refl (hm1) rfl ?_) | fail)
                all_goals first
                  | (exfalso; omega)
                  | exact ⟨c + 1, by omega, by omega, (by rw [hin2, h8, hA, hB]; exact back [0, 1, 2, 3] rfl rfl ⟨rfl, rfl, rfl, rfl, trivial⟩ (by repeat' (first | exact trivial | exact rfl | refine And.intro ?_ ?_)))⟩
          · have hstay := tabs_stay hpl hSo hR0 hcl hsS hin
            have hout := outR_out hs hin
            obtain ⟨o, ho⟩ := getE hcl
            obtain ⟨l, hll⟩ := getE (l := m.classes) (i := c) (by have := hpl.1; omega)
            have hop := hpl.2 c hcl o l ho hll
            by_cases ho0 : o < 0
            · repeat' (first | (refine idx_sl (k := c) (at_map ho) (by omega) ?_) | refine o1 ?_ | refine o2 ?_ | refine k1 ?_ | refine k2 ?_ | refine k3 ?_ | refine k4 ?_ | refine k6 ?_ | refine k8 ?_ | refine And.intro ?_ ?_ | (intro h; first | exact Bool.noConfusion h | exact nz _ h | exact nl h | (simp at h; done) | (simp at h; first | (exfalso; omega) | skip) | skip) | refine eqv_len_map ?_ | refine eqv_wrap (by omega) (by omega) ?_ | fail)
              all_goals first
                | (exfalso; omega)
                | exact ⟨c + 1, by omega, by omega, (by rw [hout, hstay.1, hstay.2]; exact back [0, 1, 2, 3] rfl rfl ⟨rfl, rfl, rfl, rfl, trivial⟩ (by repeat' (first | exact trivial | exact rfl | refine And.intro ?_ ?_)))⟩
            obtain ⟨o, rfl⟩ : ∃ q : Nat, o = q := ⟨o.toNat, by omega⟩
            obtain ⟨q, hq⟩ := getE (l := l) (i := o) (by omega)
            have hrm := rm_pos ho hll hq
            have hplc := c_place s q.place.room (by omega)
            have e1 : plI s q.place.room = -1 := by unfold plI; rw [if_neg (hrm ▸ hin)]
            rw [e1] at hplc
            have hln := hz.2.1 l (List.mem_of_getElem? hll)
            repeat' (first | (refine idx_sl (k := c) (at_map ho) (by omega) ?_) | (refine idx_sl (k := c) (at_map hll) (by omega) ?_) | (refine idx_sl (k := o) (at_map hq) (by omega) ?_) | refine o1 ?_ | refine o2 ?_ | refine k1 ?_ | refine k2 ?_ | refine k3 ?_ | refine k4 ?_ | refine k6 ?_ | refine k8 ?_ | refine And.intro ?_ ?_ | (intro h; first | exact Bool.noConfusion h | exact nz _ h | exact nl h | (simp at h; done) | (simp at h; first | (exfalso; omega) | skip) | skip) | refine eqv_len_map ?_ | refine eqv_wrap (by omega) (by omega) ?_ | (change vcFun _ _ _ _ _; refine call_eq rfl (by repeat' (first | trivial | refine And.intro ?_ ?_ | (show 0 + _ ≤ List.length _; simp))) ALeL.refl (hplc) rfl ?_) | fail)
            all_goals first
              | (exfalso; omega)
              | exact ⟨c + 1, by omega, by omega, (by rw [hout, hstay.1, hstay.2]; exact back [0, 1, 2, 3] rfl rfl ⟨rfl, rfl, rfl, rfl, trivial⟩ (by repeat' (first | exact trivial | exact rfl | refine And.intro ?_ ?_)))⟩
        · obtain rfl : c = plan.length := by omega
          rw [outR_next hs]
          repeat' (first | refine o1 ?_ | refine o2 ?_ | refine k1 ?_ | refine k2 ?_ | refine k3 ?_ | refine k8 ?_ | refine And.intro ?_ ?_ | (intro h; first | exact Bool.noConfusion h | exact nz _ h | exact nl h | (simp at h; done) | (simp at h; first | (exfalso; omega) | skip) | skip) | refine eqv_len_map ?_ | refine eqv_wrap (by omega) (by omega) ?_ | fail)
          exact ⟨k + 1, by omega, by omega, back [0, 1] rfl rfl ⟨rfl, rfl, trivial⟩ (by repeat' (first | exact trivial | exact rfl | refine And.intro ?_ ?_))⟩
      · obtain rfl : k = S.length := by omega
        have hol := outR_len (m := m) (plan := plan) (S := S) (k := S.length) (c := 0)
        rw [outR_all hpl hSo hR0] at hol ⊢
        generalize canL m plan S = OUT at *
        dsimp only [mdlO]
        repeat' (first | refine o1 ?_ | refine o2 ?_ | refine k1 ?_ | refine k2 ?_ | refine k3 ?_ | refine k7 ?_ | refine k8 ?_ | refine And.intro ?_ ?_ | (intro h; first | exact Bool.noConfusion h | exact nz _ h | exact nl h | (simp at h; done) | (simp at h; first | (exfalso; omega) | skip) | skip) | refine eqv_len_map ?_ | fail)
        refine ret_pure (r0 := .tup [.pv (.sl 1 (((OUT.map intRow).drop 0).take plan.length)), vint .i64 0]) rfl ?_ ?_
        · refine ⟨?_, trivial⟩
          show 0 + plan.length ≤ _
          rw [List.length_map]; omega
        · rw [List.drop_zero, List.take_of_length_le (by rw [List.length_map]; omega)]
          exact ⟨ALe.refl⟩
    · rw [pB_f hpl] at hp
      have e1 : canE m plan = 17 := by unfold canE; rw [if_pos hok, pB_f hpl]; rfl
      have e2 : canR m plan = [] := by unfold canR; rw [if_neg (by rw [e1]; decide)]
      rw [e1, e2]
      refine acall_of tok mixed 154 rfl (fn := Tryz.f20) (c := Tryz.f20.body.getD .skip) (by kernel_rfl) (by kernel_rfl) (by kernel_rfl) rfl 0 rfl ?_
      repeat' (first | refine o1 ?_ | refine o2 ?_ | refine k1 ?_ | refine k2 ?_ | refine k3 ?_ | refine k6 ?_ | refine k7 ?_ | refine And.intro ?_ ?_ | (intro h; first | exact Bool.noConfusion h | exact nz _ h | exact nl h | (simp at h; done) | (simp at h; first | (exfalso; omega) | skip) | skip) | (change retOk _ _ _ _; refine ret_pure rfl trivial ?_) | (change vcFun _ _ _ _ _; refine call_eq rfl (by repeat' (first | trivial | refine And.intro ?_ ?_ | (show 0 + _ ≤ List.length _; simp))) ALeL.refl (hv) rfl ?_) | (change vcFun _ _ _ _ _; refine call_eq rfl (by repeat' (first | trivial | refine And.intro ?_ ?_ | (show 0 + _ ≤ List.length _; simp))) ALeL.refl (hp) rfl ?_) | fail)
      exact ⟨ALe.tup ⟨ALe.pv PLe.nil, ALe.refl, trivial⟩⟩
  · have e1 : canE m plan = modelE m := by unfold canE; rw [if_neg hok]
    have e2 : canR m plan = [] := by unfold canR; rw [if_neg (by rw [e1]; exact hok)]
    rw [e1, e2]
    refine acall_of tok mixed 154 rfl (fn := Tryz.f20) (c := Tryz.f20.body.getD .skip) (by kernel_rfl) (by kernel_rfl) (by kernel_rfl) rfl 0 rfl ?_
    repeat' (first | refine o1 ?_ | refine o2 ?_ | refine k1 ?_ | refine k2 ?_ | refine k3 ?_ | refine k7 ?_ | refine And.intro ?_ ?_ | (intro h; first | exact Bool.noConfusion h | exact nz _ h | exact nl h | (simp at h; done) | (simp at h; first | (exfalso; omega) | skip) | skip) | (change retOk _ _ _ _; refine ret_pure rfl trivial ?_) | (change vcFun _ _ _ _ _; refine call_eq rfl (by repeat' (first | trivial | refine And.intro ?_ ?_ | (show 0 + _ ≤ List.length _; simp))) ALeL.refl (hv) rfl ?_) | fail)
    all_goals first
      | (exfalso; omega)
      | exact ⟨ALe.tup ⟨ALe.pv PLe.nil, ALe.refl, trivial⟩⟩
theorem c_rcanon (m : Model) (plan : List Int) (hl : Laid m) (hp : modelE m = 0 → PCall Tryz.prog 48 [ag m.cells, .pv (encInts plan)] (fun r => r = vbool (pB (isPlanP m plan)))) : PCall Tryz.prog 20 [ag m.cells, .pv (encInts plan)] (fun r => r = .tup [.pv (.sl 1 ((canR m plan).map intRow)), vint .i64 (canE m plan)]) := (c_rcanon0 m plan hl hp).weak fun r k => ⟨_, k.le, rfl⟩
end Go.Proofs.YtihpjcmloecaaaaGreat.Cw
/-
  Symmetry: plans by dice, of any model; the reference's plans.
-/
namespace Go.Proofs.YtihpjcmloecaaaaGreat.Cw
open Go Go.Cw Go.Proofs
set_option linter.unusedVariables false
set_option maxRecDepth 100000
set_option maxHeartbeats 8000000
theorem opt_iff {m : Model} {j : Nat} {o : Int} {l : List Opt} (hl : m.classes[j]? = some l) : (o = -1 ∨ optionP m j o) ↔ (-1 ≤ o ∧ o < l.length) := by
  unfold optionP
  rw [Int.toNat_natCast, hl]
  constructor
  · rintro (h | ⟨_, h1, l', h2, h3⟩)
    · omega
    · cases h2; omega
  · rintro ⟨h1, h2⟩
    by_cases h : o = -1
    · exact .inl h
    · exact .inr ⟨by omega, by omega, l, rfl, h2⟩
theorem c_rpart (m : Model) (plan : List Int) (hz : sizedP m) : PCall Tryz.prog 48 [ag m.cells, .pv (encInts plan)] (fun r => r = vbool (pB (isPlanP m plan))) := by
  refine acall_of tok mixed 33 rfl (fn := Tryz.f48) (c := Tryz.f48.body.getD .skip) (by kernel_rfl) (by kernel_rfl) (by kernel_rfl) rfl 0 rfl ?_
  have hcn := hz.1
  repeat' (first | refine o1 ?_ | refine o2 ?_ | refine k1 ?_ | refine k2 ?_ | refine k3 ?_ | refine k4 ?_ | refine k6 ?_ | refine k7 ?_ | refine And.intro ?_ ?_ | (intro h; first | exact Bool.noConfusion h | exact nz _ h | exact nl h | (simp at h; done) | (simp at h; first | (exfalso; omega) | skip) | skip) | (change retOk _ _ _ _; refine ret_pure rfl trivial ?_) | refine eqv_len_map ?_ | fail)
  all_goals first
    | exact congrArg vbool (pB_f fun h => by have := h.1; omega).symm
    | skip
  have hpl : plan.length = m.classes.length := by omega
  refine loop_at (fun i : Nat => [(5, vint .i64 i)]) (fun _ => []) (fun i => i ≤ plan.length ∧ ∀ j : Nat, j < i → ∀ o l, plan[j]? = some o → m.classes[j]? = some l → -1 ≤ o ∧ o < l.length) (fun i => plan.length - i) 0 ⟨by omega, fun j hj => by omega⟩ (by repeat' (first | exact trivial | exact ⟨_, rfl, ALe.refl⟩ | refine And.intro ?_ ?_)) (by repeat' (first | exact trivial | exact rfl | refine And.intro ?_ ?_)) ?_
  intro i ⟨hi, hall⟩
  rcases Nat.lt_or_ge i plan.length with hlt | hge
  · obtain ⟨o, ho⟩ := getE hlt
    obtain ⟨l, hl⟩ := getE (l := m.classes) (i := i) (by omega)
    have hiff := opt_iff (o := o) hl
    have hstep : -1 ≤ o ∧ o < l.length → ∀ j : Nat, j < i + 1 → ∀ o l, plan[j]? = some o → m.classes[j]? = some l → -1 ≤ o ∧ o < l.length := fun h1 j hj o' l' ho' hl' => by
      rcases Nat.lt_or_ge j i with h3 | h3
      · exact hall j h3 o' l' ho' hl'
      · obtain rfl : j = i := by omega
        rw [ho] at ho'; rw [hl] at hl'; cases ho'; cases hl'; exact h1
    repeat' (first | (refine idx_sl (k := i) (at_map ho) (by omega) ?_) | refine o1 ?_ | refine o2 ?_ | refine k1 ?_ | refine k2 ?_ | refine k3 ?_ | refine k4 ?_ | refine k6 ?_ | refine k7 ?_ | refine And.intro ?_ ?_ | refine o3 ?_ | refine o4 ?_ | (intro h; first | exact Bool.noConfusion h | exact nz _ h | exact nl h | (simp at h; done) | (simp at h; first | (exfalso; omega) | skip) | skip) | (change retOk _ _ _ _; refine ret_pure rfl trivial ?_) | exact (by kernel_rfl : drawOk _ _ = true) | refine eqv_len_map ?_ | refine eqv_wrap (by omega) (by omega) ?_ | (change vcFunD _ _ _ _ _; refine callD_eq rfl (by repeat' (first | trivial | refine And.intro ?_ ?_ | (show 0 + _ ≤ List.length _; simp))) ALeL.refl (c_roption m i o) rfl ?_) | fail)
    all_goals first
      | (refine congrArg vbool (pB_f fun h => ?_).symm; exact (hiff.2 (h.2 i hlt o l ho hl)).elim (fun g => absurd g (by assumption)) (fun g => absurd g (by assumption)))
      | exact ⟨i + 1, ⟨by omega, hstep (hiff.1 (by first | exact .inl (by omega) | exact .inr (by assumption)))⟩, by omega, back [0] rfl rfl ⟨rfl, trivial⟩ (by repeat' (first | exact trivial | exact rfl | refine And.intro ?_ ?_))⟩
  · repeat' (first | refine o1 ?_ | refine o2 ?_ | refine k1 ?_ | refine k2 ?_ | refine k3 ?_ | refine k7 ?_ | refine k8 ?_ | refine And.intro ?_ ?_ | (intro h; first | exact Bool.noConfusion h | exact nz _ h | exact nl h | (simp at h; done) | (simp at h; first | (exfalso; omega) | skip) | skip) | (change retOk _ _ _ _; refine ret_pure rfl trivial ?_) | refine eqv_len_map ?_ | fail)
    all_goals first
      | exact congrArg vbool (pB_t ⟨hpl, fun j hj => hall j (by omega)⟩).symm
structure PlX (m : Model) (full : Bool) (l : List Int) (n : Nat) : Prop where
  len : l.length = n
  at_ : ∀ i, i < n → ∀ o c, l[i]? = some o → m.classes[i]? = some c → -1 ≤ o ∧ (1 ≤ c.length → o < c.length) ∧ (full = false → o < c.length) ∧ (full = true → 0 ≤ o)
theorem PlX.nil {m : Model} {full : Bool} : PlX m full [] 0 := ⟨rfl, fun i h => absurd h (Nat.not_lt_zero _)⟩
theorem PlX.app {m : Model} {full : Bool} {l : List Int} {n : Nat} {o : Int} {c : List Opt} (h : PlX m full l n) (hc : m.classes[n]? = some c) (h1 : -1 ≤ o ∧ (1 ≤ c.length → o < c.length) ∧ (full = false → o < c.length) ∧ (full = true → 0 ≤ o)) : PlX m full (l ++ [o]) (n + 1) := by
  have hl := h.len
  refine ⟨by simp [hl], fun i hi o' c' ho hc' => ?_⟩
  rcases Nat.lt_or_ge i n with g | g
  · rw [List.getElem?_append_left (by omega)] at ho
    exact h.at_ i g o' c' ho hc'
  · obtain rfl : i = n := by omega
    rw [List.getElem?_append_right (by omega)] at ho
    simp [hl] at ho; subst ho
    rw [hc] at hc'; cases hc'
    exact h1
theorem next_rng (t : List Int) (k : Nat) (n : Int) : 0 ≤ nextV t k n ∧ (1 ≤ n → nextV t k n < n) := by
  by_cases h1 : 1 ≤ n
  · exact ⟨(nextV_range t k h1).1, fun _ => (nextV_range t k h1).2⟩
  · refine ⟨?_, fun h => absurd h h1⟩
    unfold nextV modI
    (repeat' split) <;> omega
def planS (m : Model) (t : List Int) (k : Nat) (full : Bool) : Nat → List Int × Nat
  | 0 => ([], k)
  | i + 1 => match m.classes[i]? with
    | some c => ((planS m t k full i).1 ++ [if full then nextV t (planS m t k full i).2 c.length else nextV t (planS m t k full i).2 ((c.length : Int) + 1) - 1], nextK t (planS m t k full i).2)
    | none => planS m t k full i
theorem planS_next {m : Model} {t : List Int} {k i : Nat} {full : Bool} {c : List Opt} (hc : m.classes[i]? = some c) : planS m t k full (i + 1) = ((planS m t k full i).1 ++ [if full then nextV t (planS m t k full i).2 c.length else nextV t (planS m t k full i).2 ((c.length : Int) + 1) - 1], nextK t (planS m t k full i).2) := by
  rw [planS, hc]
theorem planS_ok {m : Model} {t : List Int} {k : Nat} {full : Bool} (hk : k ≤ t.length) : ∀ {i : Nat}, i ≤ m.classes.length → (planS m t k full i).2 ≤ t.length ∧ PlX m full (planS m t k full i).1 i
  | 0, _ => ⟨hk, PlX.nil⟩
  | i + 1, hi => by
    obtain ⟨h1, h2⟩ := planS_ok (m := m) (full := full) hk (i := i) (by omega)
    obtain ⟨c, hc⟩ := getE (l := m.classes) (i := i) (by omega)
    rw [planS_next hc]
    refine ⟨nextK_le h1, h2.app hc ?_⟩
    cases full
    · obtain ⟨a, b⟩ := next_rng t (planS m t k false i).2 ((c.length : Int) + 1)
      have := b (by omega)
      exact ⟨by simp only [Bool.false_eq_true, if_false]; omega, fun _ => by simp only [Bool.false_eq_true, if_false]; omega, fun _ => by simp only [Bool.false_eq_true, if_false]; omega, fun e => Bool.noConfusion e⟩
    · obtain ⟨a, b⟩ := next_rng t (planS m t k true i).2 (c.length : Int)
      exact ⟨by simp only [if_true]; omega, fun h => by simp only [if_true]; exact b (by omega), (fun e => Bool.noConfusion e), fun _ => by simp only [if_true]; exact a⟩
theorem c_planX (t : List Int) (k : Nat) (ht : t.length ≤ 400) (hk : k ≤ t.length) (m : Model) (full : Bool) (hm : LaidX m) :
    ACall Tryz.prog 18 [.ptr 0 2 0 0, ag m.cells, vbool full] [dice t k] (fun r H' => r = .pv (encInts (planS m t k full m.classes.length).1) ∧ H' = [dice t (planS m t k full m.classes.length).2]) := by
  have hcn := hm.cn
  refine acall_of tok mixed 39 rfl (fn := Tryz.f18) (c := Tryz.f18.body.getD .skip) (by kernel_rfl) (by kernel_rfl) (by kernel_rfl) rfl 1 rfl ?_
  repeat' (first | refine o1 ?_ | refine o2 ?_ | refine k1 ?_ | refine k2 ?_ | refine k4 ?_ | fail)
  refine loop_for (fun x : Nat => [(0, .ptr 0 2 0 0), (2, vbool full), (4, .ptr 1 4 0 0), (7, slP 2 1 ((planS m t k full x).1.map intRow)), (8, vint .i64 x)]) (fun x => [dice t (planS m t k full x).2, mdlO m, obP 3 1 ((planS m t k full x).1.map intRow)])
    (fun x => x ≤ m.classes.length) (fun x => m.classes.length - x) 0 (Nat.zero_le _) ?_ ?_
  · exact back [0, 1, 2] rfl rfl (by repeat' (first | exact trivial | exact rfl | refine And.intro ?_ ?_)) (by repeat' (first | exact trivial | exact rfl | refine And.intro ?_ ?_))
  intro i hi
  obtain ⟨hk2, hP⟩ := planS_ok (m := m) (t := t) (full := full) hk hi
  dsimp only [mdlO]
  rcases Nat.lt_or_ge i m.classes.length with hil | hig
  · obtain ⟨c, hc⟩ := getE hil
    have hnx := planS_next (t := t) (k := k) (full := full) hc
    generalize planS m t k full i = st at *
    obtain ⟨l, k2'⟩ := st
    dsimp only at hk2 hP hnx ⊢
    have hll := hP.len
    have hcl := hm.on c (List.mem_of_getElem? hc)
    have hb1 : ((l.map intRow).length + 1) * 8 ≤ 140737488355328 := by rw [List.length_map]; omega
    have hb2 : (l.map intRow).length + 1 ≤ 9223372036854775807 := by rw [List.length_map]; omega
    cases full
    · have hn := c_next t k2' ((c.length : Int) + 1) ht hk2 (by omega)
      obtain ⟨v0, v1⟩ := next_rng t k2' ((c.length : Int) + 1)
      have v2 := v1 (by omega)
      generalize nextV t k2' ((c.length : Int) + 1) = v at *
      generalize nextK t k2' = kq at *
      repeat' (first | ((change vcFun _ _ _ _ _; refine call_one (i := 0) rfl (fun _ _ => rfl) [.ptr 0 2 0 0, vint .i64 ((c.length : Int) + 1)] rfl hn ?_; rintro r H' ⟨rfl, rfl⟩; refine ⟨_, rfl, fun _ _ => rfl, fun _ _ => rfl, ?_⟩)) | (refine fv_sl ?_) | (refine fh_ob ?_) | (refine idx_sl (k := i) (at_map hc) (by omega) ?_) | ((refine o_app rfl rfl rfl rfl rfl rfl rfl rfl rfl rfl rfl hb1 hb2 ?_)) | refine o1 ?_ | refine o2 ?_ | refine k1 ?_ | refine k2 ?_ | refine k3 ?_ | refine k4 ?_ | refine k6 ?_ | refine And.intro ?_ ?_ | (intro h; first | exact Bool.noConfusion h | exact nz _ h | exact nl h | (simp at h; done) | (simp at h; first | (exfalso; omega) | skip) | skip) | refine eqv_len_map ?_ | refine eqv_wrap (by omega) (by omega) ?_ | fail)
      refine ⟨i + 1, hil, by omega, ?_⟩
      rw [hnx]
      simp only [Bool.false_eq_true, if_false]
      rw [map_snoc, sl_app, ob_app]
      refine back [0, 1, 4] rfl rfl ?_ ?_
      · repeat' (first | exact trivial | exact rfl | refine And.intro ?_ ?_)
      · repeat' (first | exact trivial | exact rfl | refine And.intro ?_ ?_)
    · have hn := c_next t k2' (c.length : Int) ht hk2 (by omega)
      obtain ⟨v0, v1⟩ := next_rng t k2' (c.length : Int)
      generalize nextV t k2' (c.length : Int) = v at *
      generalize nextK t k2' = kq at *
      repeat' (first | ((change vcFun _ _ _ _ _; refine call_one (i := 0) rfl (fun _ _ => rfl) [.ptr 0 2 0 0, vint .i64 (c.length : Int)] rfl hn ?_; rintro r H' ⟨rfl, rfl⟩; refine ⟨_, rfl, fun _ _ => rfl, fun _ _ => rfl, ?_⟩)) | (refine fv_sl ?_) | (refine fh_ob ?_) | (refine idx_sl (k := i) (at_map hc) (by omega) ?_) | ((refine o_app rfl rfl rfl rfl rfl rfl rfl rfl rfl rfl rfl hb1 hb2 ?_)) | refine o1 ?_ | refine o2 ?_ | refine k1 ?_ | refine k2 ?_ | refine k3 ?_ | refine k4 ?_ | refine k6 ?_ | refine And.intro ?_ ?_ | (intro h; first | exact Bool.noConfusion h | exact nz _ h | exact nl h | (simp at h; done) | (simp at h; first | (exfalso; omega) | skip) | skip) | refine eqv_len_map ?_ | refine eqv_wrap (by omega) (by omega) ?_ | fail)
      refine ⟨i + 1, hil, by omega, ?_⟩
      rw [hnx]
      simp only [if_true]
      rw [map_snoc, sl_app, ob_app]
      refine back [0, 1, 4] rfl rfl ?_ ?_
      · repeat' (first | exact trivial | exact rfl | refine And.intro ?_ ?_)
      · repeat' (first | exact trivial | exact rfl | refine And.intro ?_ ?_)
  · obtain rfl : i = m.classes.length := by omega
    generalize planS m t k full m.classes.length = st at *
    obtain ⟨l, k2'⟩ := st
    dsimp only at hk2 hP ⊢
    refine forceH_in ?_
    refine ghost_seq (Γ' := [(4, .ptr 1 4 0 0), (7, .pv (.sl 1 (l.map intRow))), (8, vint .i64 m.classes.length)]) (H' := [dice t k2', mdlO m]) (Ghost.sl (s := 7) (id := 2) rfl rfl fun H' hl hH => back [0, 1] rfl rfl ⟨hH 0 (by decide), hH 1 (by decide), trivial⟩ (by repeat' (first | exact trivial | exact rfl | refine And.intro ?_ ?_))) ?_
    dsimp only [mdlO]
    repeat' (first | refine o1 ?_ | refine o2 ?_ | refine k1 ?_ | refine k2 ?_ | refine k3 ?_ | refine k7 ?_ | refine k8 ?_ | refine And.intro ?_ ?_ | (intro h; first | exact Bool.noConfusion h | exact nz _ h | exact nl h | (simp at h; done) | (simp at h; first | (exfalso; omega) | skip) | skip) | refine eqv_len_map ?_ | fail)
    exact ret_obj [0] [dice t k2'] rfl rfl ⟨rfl, trivial⟩ (r' := .pv (.sl 1 (l.map intRow))) rfl ⟨rfl, rfl⟩
theorem plan_ex (t : List Int) (k : Nat) (ht : t.length ≤ 400) (hk : k ≤ t.length) (m : Model) (full : Bool) (hm : LaidX m) : ∃ (l : List Int) (kc : Nat), kc ≤ t.length ∧ PlX m full l m.classes.length ∧
    ACall Tryz.prog 18 [.ptr 0 2 0 0, ag m.cells, vbool full] [dice t k] (fun r H' => r = .pv (encInts l) ∧ H' = [dice t kc]) :=
  ⟨_, _, (planS_ok hk (Nat.le_refl _)).1, (planS_ok hk (Nat.le_refl _)).2, c_planX t k ht hk m full hm⟩
end Go.Proofs.YtihpjcmloecaaaaGreat.Cw
/-
  Symmetry: the law on exchanges.
-/
namespace Go.Proofs.YtihpjcmloecaaaaGreat.Cw
open Go Go.Cw Go.Proofs
set_option linter.unusedVariables false
set_option maxRecDepth 100000
set_option maxHeartbeats 8000000
theorem call_model {t : List Int} {k : Nat} {H : Heap} {K : AV → Heap → Prop} (i : Nat) (hi : H[i]? = some (dice t k)) (ht : t.length ≤ 400) (hk : k ≤ t.length)
    (hK : ∀ (m : Model) kc, kc ≤ t.length → LaidX m → K (ag m.cells) (H.set i (dice t kc))) : vcFun Tryz.prog 11 [.ptr i 2 0 0] H K := by
  refine call_one (i := i) hi (fun _ _ => rfl) [.ptr 0 2 0 0] rfl (c_model t k ht hk) ?_
  rintro r H' ⟨m, k', h1, h2, rfl, rfl⟩
  exact ⟨_, rfl, fun _ _ => rfl, fun _ _ => rfl, hK m k' h1 h2⟩
def abRow (p : Int × Int) : List PV := [ei p.1, ei p.2]
end Go.Proofs.YtihpjcmloecaaaaGreat.Cw
/-
  Symmetry: the example with which each law begins: two equal rooms can be exchanged.
-/
namespace Go.Proofs.YtihpjcmloecaaaaGreat.Cw
open Go Go.Cw Go.Proofs
set_option linter.unusedVariables false
set_option maxRecDepth 100000
set_option maxHeartbeats 8000000
def awO (r : Int) : Opt := ⟨⟨⟨0, 0, 0, 0⟩, r⟩, []⟩
def awL : List Opt := [awO 0, awO 1]
def awM : Model := ⟨[awL], [], [], 0⟩
theorem aw_pl (r s : Int) (h : r ≠ s) : ¬ (awO r).place = (awO s).place := fun e => h (congrArg Placed.room e)
theorem aw_at00 : placedAt awL (awO 0).place 0 = true := placed_t rfl rfl
theorem aw_at01 : placedAt awL (awO 0).place 1 = false := placed_f rfl (aw_pl 1 0 (by decide))
theorem aw_at10 : placedAt awL (awO 1).place 0 = false := placed_f rfl (aw_pl 0 1 (by decide))
theorem aw_at11 : placedAt awL (awO 1).place 1 = true := placed_t rfl rfl
theorem aw_s0 : sameP awL (awO 0).place 2 = [0] := by
  unfold sameP; rw [show List.range 2 = [0, 1] from rfl, List.filter_cons, aw_at00, if_pos rfl, List.filter_cons, aw_at01]; rfl
theorem aw_s1 : sameP awL (awO 1).place 2 = [1] := by
  unfold sameP; rw [show List.range 2 = [0, 1] from rfl, List.filter_cons, aw_at10, List.filter_cons, aw_at11]; rfl
theorem aw_s11 : sameP awL (awO 1).place 1 = [] := by
  unfold sameP; rw [show List.range 1 = [0] from rfl, List.filter_cons, aw_at10]; rfl
theorem aw_i01 : imgO awL 0 1 = some 1 := by
  show (sameP awL (awO 1).place 2)[(sameP awL (awO 0).place 0).length]? = _
  rw [aw_s1]; rfl
theorem aw_i10 : imgO awL 1 0 = some 0 := by
  show (sameP awL (awO 0).place 2)[(sameP awL (awO 1).place 1).length]? = _
  rw [aw_s0, aw_s11]; rfl
theorem aw_i11 : imgO awL 1 1 = some 1 := by
  show (sameP awL (awO 1).place 2)[(sameP awL (awO 1).place 1).length]? = _
  rw [aw_s1, aw_s11]; rfl
theorem aw_w0 : swapO awL 0 1 0 = some 1 := aw_i01
theorem aw_w1 : swapO awL 0 1 1 = some 0 := aw_i10
theorem aw_imgs : imgsL awL 0 1 2 = [1, 0] := by
  unfold imgsL; rw [show List.range 2 = [0, 1] from rfl, List.filterMap_cons_some aw_w0, List.filterMap_cons_some aw_w1]; rfl
theorem aw_ok : modelE awM = 0 := by
  refine mE0 ⟨by decide, fun l h => ?_, by decide, by decide, by decide, by decide⟩ ⟨fun l h o ho => ?_, fun i h => absurd h (Nat.not_lt_zero _), fun c h => absurd h List.not_mem_nil⟩
  · obtain rfl := List.mem_singleton.1 h; decide
  · obtain rfl := List.mem_singleton.1 h
    simp only [awL, List.mem_cons, List.not_mem_nil, or_false] at ho
    rcases ho with rfl | rfl <;> exact fun i h => absurd h (Nat.not_lt_zero _)
theorem aw_laid : Laid awM := ⟨by decide, by decide, fun l h o ho => by
    obtain rfl := List.mem_singleton.1 h
    simp only [awL, List.mem_cons, List.not_mem_nil, or_false] at ho
    rcases ho with rfl | rfl <;> decide, fun c h => absurd h List.not_mem_nil⟩
theorem aw_sw : swapP awM 0 1 := by
  refine ⟨fun l h i hi => ?_, fun p h => absurd h List.not_mem_nil, rfl⟩
  obtain rfl := List.mem_singleton.1 h
  match i, hi with
  | 0, _ => exact ⟨1, awO 0, awO 1, aw_w0, rfl, rfl, rfl⟩
  | 1, _ => exact ⟨0, awO 1, awO 0, aw_w1, rfl, rfl, rfl⟩
theorem aw_ex : exP awM 0 1 := ⟨aw_ok, by decide, by decide, by decide, aw_sw⟩
theorem aw_exV : exV awM 0 1 = [[1, 0]] := by
  unfold exV
  rw [if_pos (pB_t aw_ex)]
  show [imgsL awL 0 1 2] = _
  rw [aw_imgs]
theorem aw_rooms : roomsV awM = [0, 1] := by
  show compactI (sortI [0, 1]) = [0, 1]
  rw [show sortI [0, 1] = [0, 1] from List.mergeSort_of_pairwise (by decide)]
  decide
theorem aw_sets : setsV awM = [[0, 1]] := by
  unfold setsV
  rw [if_pos aw_ok, aw_rooms]
  show (if [(1 : Int)].filter (swB awM 0) = [] then [] else [(0 : Int) :: [1].filter (swB awM 0)]) ++ setsF awM 1 ([1].filter fun b => !swB awM 0 b) = _
  have h : swB awM 0 1 = true := pB_t aw_sw
  rw [List.filter_cons, h, if_pos rfl, List.filter_cons, h]
  rfl
theorem aw_plan : isPlanP awM [1] := ⟨rfl, fun j hj o l ho hl => by
  have hj : j < 1 := hj
  obtain rfl : j = 0 := by omega
  cases ho; cases hl; decide⟩
theorem aw_canE : canE awM [1] = 0 := by unfold canE; rw [if_pos aw_ok, pB_t aw_plan]; rfl
theorem aw_setF : setF [[0, 1]] 1 = [0, 1] := by
  unfold setF
  rw [List.find?_cons, show pB ((1 : Int) ∈ [(0 : Int), 1]) = true from pB_t (by decide)]; rfl
theorem aw_canR : canR awM [1] = [0] := by
  unfold canR
  rw [if_pos aw_canE]
  unfold canV
  rw [aw_sets]
  show (canS awM [1] [[0, 1]] (0 + 1)).1 = _
  rw [canS_next (o := 1) (l := awL) rfl rfl, if_neg (by decide)]
  show (canStep [[0, 1]] awL 1 1 0 ([1], [])).1 = _
  unfold canStep
  show ([1].set 0 ((setF [[0, 1]] 1).foldl (pickS [] fun t => imgI (imgO awL 1 t)) (-1, 1)).2) = [0]
  rw [aw_setF]
  have e1 : pickS [] (fun t => imgI (imgO awL 1 t)) (-1, 1) 0 = (0, 0) := by
    rw [pickS_put rfl (.inl (by decide))]; show (0, imgI (imgO awL 1 0)) = _; rw [aw_i10]; rfl
  have e2 : pickS [] (fun t => imgI (imgO awL 1 t)) (0, 0) 1 = (0, 0) := by
    rw [pickS_skip rfl]
    show ¬ ((0 : Int) < 0 ∨ imgI (imgO awL 1 1) < 0)
    rw [aw_i11]; decide
  rw [List.foldl_cons, e1, List.foldl_cons, e2]; rfl
theorem awake_ok : PCall Tryz.prog 10 [] (fun r => r = vbool true) := by
  have hS := c_Swap awM 0 1 aw_laid
  have hR := c_Rooms awM aw_laid
  have hC := c_canon awM [1] aw_laid
  rw [aw_exV, pB_t aw_ex] at hS
  rw [aw_sets] at hR
  rw [aw_canE, aw_canR] at hC
  refine acall_of tok mixed 66 rfl (fn := Tryz.f10) (c := Tryz.f10.body.getD .skip) (by kernel_rfl) (by kernel_rfl) (by kernel_rfl) rfl 0 rfl ?_
  repeat' (first | (refine join_in (a := .region 1 _ _) (fun _ => [(1, .ptr 0 4 0 0)]) (fun _ : Unit => [mdlO awM]) (fun _ => True) ?_) | refine o1 ?_ | refine o2 ?_ | refine k1 ?_ | refine k2 ?_ | refine And.intro ?_ ?_ | exact (by kernel_rfl : drawOk _ _ = true) | fail)
  · refine ⟨(), trivial, Ghost.trans (Ghost.pure0 (i := 1) (xs := []) (r0 := [.ms 0 6 0 2]) rfl rfl rfl ?_ rfl rfl rfl) (Ghost.trans (Ghost.shut (i := 2) (c := 0) (x := .ms 1 1 0 1) (y' := .pv (.sl 1 (awM.classes.map optsRow))) rfl rfl rfl ?_ (show ¬ (2 ∈ ([1] : List Nat)) by decide) (ALe.pv ?_)) (Ghost.trans (Ghost.shut (i := 2) (c := 1) (x := .pv (.val (.slice none 0 0))) rfl rfl rfl (by repeat' (first | trivial)) (show ¬ (2 ∈ ([] : List Nat)) by decide) (ALe.pv (PLe.nil (z := 4)))) (Ghost.trans (Ghost.shut (i := 2) (c := 2) (x := .pv (.val (.slice none 0 0))) rfl rfl rfl (by repeat' (first | trivial)) (show ¬ (2 ∈ ([] : List Nat)) by decide) (ALe.pv (PLe.nil (z := 4)))) (back [2] rfl rfl ⟨rfl, trivial⟩ (by repeat' (first | exact trivial | exact rfl | refine And.intro ?_ ?_))))))⟩
    · repeat' (first | exact True.intro | refine And.intro ?_ ?_ | (show 0 + _ ≤ List.length _; decide))
    · exact Nat.le_refl _
    · exact PLe.sl ⟨⟨PLe.sl ⟨⟨PLe.refl, PLe.refl, PLe.refl, PLe.refl, PLe.refl, PLe.nil, trivial⟩, ⟨PLe.refl, PLe.refl, PLe.refl, PLe.refl, PLe.refl, PLe.nil, trivial⟩, trivial⟩, trivial⟩, trivial⟩
  refine ⟨?_⟩
  intro _ _
  dsimp only [mdlO]
  repeat' (first | ((change vcFun _ _ _ _ _; refine call_frz rfl (by repeat' (first | trivial | refine And.intro ?_ ?_ | (show 0 + _ ≤ List.length _; simp))) ALeL.refl hS ?_; rintro _ rfl)) | ((change vcFun _ _ _ _ _; refine call_frz rfl (by repeat' (first | trivial | refine And.intro ?_ ?_ | (show 0 + _ ≤ List.length _; simp))) ALeL.refl hC ?_; rintro _ rfl)) | ((change vcFun _ _ _ _ _; refine call_frz rfl (by repeat' (first | trivial | refine And.intro ?_ ?_ | (show 0 + _ ≤ List.length _; simp))) ALeL.refl hR ?_; rintro _ rfl)) | (refine ⟨0, _, rfl, rfl, ?_⟩) | refine o1 ?_ | refine o2 ?_ | refine k1 ?_ | refine k2 ?_ | refine k7 ?_ | refine And.intro ?_ ?_ | (intro h; first | exact Bool.noConfusion h | exact nz _ h | exact nl h | (simp at h; done) | (simp at h; first | (exfalso; omega) | skip) | skip) | (change retOk _ _ _ _; refine ret_pure rfl trivial ?_) | refine eqv_len_map ?_ | fail)
  all_goals exact rfl
end Go.Proofs.YtihpjcmloecaaaaGreat.Cw
/-
  Symmetry: the law on canonical plans.
-/
namespace Go.Proofs.YtihpjcmloecaaaaGreat.Cw
open Go Go.Cw Go.Proofs
set_option linter.unusedVariables false
set_option maxRecDepth 100000
set_option maxHeartbeats 8000000
theorem canR_len {m : Model} {plan : List Int} : (canR m plan).length ≤ 24 := by
  unfold canR
  split
  · rename_i h
    unfold canE at h
    by_cases hok : modelE m = 0
    · rw [if_pos hok] at h
      by_cases hp : isPlanP m plan
      · have h1 := (canS_inv (S := setsV m) hp (Nat.le_refl _)).1
        have h2 := (model_sized hok).1
        have h3 := hp.1
        unfold canV; omega
      · rw [pB_f hp] at h; cases h
    · rw [if_neg hok] at h; exact absurd h hok
  · exact Nat.zero_le _
theorem c_canons (t raw : List Int) : PCall Tryz.prog 4 [.pv (encInts t), .pv (encInts raw)] (fun r => r = vbool true) := by
  have hA := awake_ok
  refine acall_of tok mixed 57 rfl (fn := Tryz.f4) (c := Tryz.f4.body.getD .skip) (by kernel_rfl) (by kernel_rfl) (by kernel_rfl) rfl 0 rfl ?_
  repeat' (first | ((change vcFun _ _ _ _ _; refine call_new [.pv (encInts t)] rfl (c_roll t) (fun _ _ => rfl) ?_)) | ((change vcFun _ _ _ _ _; refine call_model 0 rfl (by assumption) (Nat.zero_le _) ?_; intro m kc hkc hmx; have hm := hmx.laid; obtain ⟨pa, ka, hka, hpa, hca⟩ := plan_ex t kc (by assumption) hkc m false hmx; obtain ⟨pb, kb, hkb, hpb, hcb⟩ := plan_ex t ka (by assumption) hka m true hmx)) | ((change vcFunD _ _ _ _ _; refine callD_one (i := 0) rfl (fun _ _ => rfl) [.ptr 0 2 0 0, ag m.cells, vbool false] rfl hca (fun _ _ => rfl) (fun _ _ => rfl) ?_)) | ((change vcFunD _ _ _ _ _; refine callD_one (i := 0) rfl (fun _ _ => rfl) [.ptr 0 2 0 0, ag m.cells, vbool true] rfl hcb (fun _ _ => rfl) (fun _ _ => rfl) ?_)) | refine o1 ?_ | refine o2 ?_ | refine k1 ?_ | refine k2 ?_ | refine k3 ?_ | refine k4 ?_ | refine k6 ?_ | refine k7 ?_ | refine And.intro ?_ ?_ | refine o3 ?_ | refine o4 ?_ | (intro h; first | exact Bool.noConfusion h | exact nz _ h | exact nl h | (simp at h; done) | (simp at h; first | (exfalso; omega) | skip) | skip) | (change retOk _ _ _ _; refine ret_pure rfl trivial ?_) | exact (by kernel_rfl : drawOk _ _ = true) | (change vcFun _ _ _ _ _; refine call_eq rfl (by repeat' (first | trivial | refine And.intro ?_ ?_ | (show 0 + _ ≤ List.length _; simp))) ALeL.refl (c_light t) rfl ?_) | (change vcFun _ _ _ _ _; refine call_eq rfl (by repeat' (first | trivial | refine And.intro ?_ ?_ | (show 0 + _ ≤ List.length _; simp))) ALeL.refl (hA) rfl ?_) | fail)
  · rfl
  obtain ⟨XS, hXl, hXS⟩ : ∃ XS : List (List Int), XS.length = 3 ∧ XS.map lstRow = [[encInts raw], [encInts pa], [encInts pb]] := ⟨[raw, pa, pb], rfl, rfl⟩
  refine loop_for (fun k : Nat => [(6, .ptr 1 4 0 0), (28, .ms 2 1 0 3), (29, vint .i64 3), (30, vint .i64 k)]) (fun k => [none, mdlO m, some ⟨22, 1, false, .p (XS.map lstRow)⟩])
    (fun k => k ≤ 3) (fun k => 3 - k) 0 (Nat.zero_le _) ?_ ?_
  · rw [hXS]
    exact back [0, 1, 2] rfl rfl (by repeat' (first | exact trivial | exact rfl | refine And.intro ?_ ?_)) (by repeat' (first | exact trivial | exact rfl | refine And.intro ?_ ?_))
  intro k hk
  dsimp only [mdlO]
  rcases Nat.lt_or_ge k 3 with hlt | hge
  · obtain ⟨p, hp⟩ := getE (l := XS) (i := k) (by omega)
    have hC := c_canon m p hm
    have hR := c_rcanon m p hm fun hok => c_rpart m p (model_sized hok)
    have hS := c_sameIntsR (canR m p) (by have := canR_len (m := m) (plan := p); omega)
    generalize canE m p = e at *
    generalize canR m p = CV at *
    repeat' (first | ((change vcFun _ _ _ _ _; refine call_frz rfl (by repeat' (first | trivial | refine And.intro ?_ ?_ | (show 0 + _ ≤ List.length _; simp))) ALeL.refl hC ?_; rintro _ rfl)) | ((change vcFun _ _ _ _ _; refine call_frz rfl (by repeat' (first | trivial | refine And.intro ?_ ?_ | (show 0 + _ ≤ List.length _; simp))) ALeL.refl hR ?_; rintro _ rfl)) | (refine ⟨_, at_map hp, ?_⟩) | refine o1 ?_ | refine o2 ?_ | refine k1 ?_ | refine k2 ?_ | refine k3 ?_ | refine k4 ?_ | refine k6 ?_ | refine And.intro ?_ ?_ | (intro h; first | exact Bool.noConfusion h | exact nz _ h | exact nl h | (simp at h; done) | (simp at h; first | (exfalso; omega) | skip) | skip) | refine eqv_zero ?_ | refine eqv_wrap (by omega) (by omega) ?_ | refine idx_ms _ (by first | rfl | assumption) (by first | assumption | omega) ?_ | (change vcFun _ _ _ _ _; refine call_eq rfl (by repeat' (first | trivial | refine And.intro ?_ ?_ | (show 0 + _ ≤ List.length _; simp))) ALeL.refl (hS) rfl ?_) | fail)
    all_goals first
      | exact ⟨k + 1, by omega, by omega, back [0, 1, 2] rfl rfl (by repeat' (first | exact trivial | exact rfl | refine And.intro ?_ ?_)) (by repeat' (first | exact trivial | exact rfl | refine And.intro ?_ ?_))⟩
  · obtain rfl : k = 3 := by omega
    repeat' (first | refine o1 ?_ | refine o2 ?_ | refine k1 ?_ | refine k2 ?_ | refine k3 ?_ | refine k7 ?_ | refine k8 ?_ | refine And.intro ?_ ?_ | (intro h; first | exact Bool.noConfusion h | exact nz _ h | exact nl h | (simp at h; done) | (simp at h; first | (exfalso; omega) | skip) | skip) | (change retOk _ _ _ _; refine ret_pure rfl trivial ?_) | (change vcFun _ _ _ _ _; refine call_eq rfl (by repeat' (first | trivial | refine And.intro ?_ ?_ | (show 0 + _ ≤ List.length _; simp))) ALeL.refl (hA) rfl ?_) | fail)
    all_goals first
      | rfl
end Go.Proofs.YtihpjcmloecaaaaGreat.Cw
/-
  What the laws of chapter 22 are handed: lists of numbers, and numbers.
-/
namespace Go.Proofs.YtihpjcmloecaaaaGreat.Cw
open Go.Cw Go.Proofs
set_option linter.unusedVariables false
set_option maxRecDepth 100000
theorem in_int {qs : List PV} (h : PTy T 3 qs) : ∃ n : Int, qs = [ei n] ∧ -9223372036854775808 ≤ n ∧ n ≤ 9223372036854775807 := kd_int (by kernel_rfl) h
theorem in_ints {qs : List PV} (h : PTy T 22 qs) : ∃ l : List Int, qs = [encInts l] := by
  obtain ⟨l, h, _⟩ := kd_slice (fun s => [ei s]) (fun _ => True) (e := 3) (z := 1) (by kernel_rfl) (fun r hr => by obtain ⟨s, h, _⟩ := in_int hr; exact ⟨s, h, trivial⟩) h
  exact ⟨l, h⟩
theorem args_ints {ts : List TypeId} {al : List AV} (h : ArgsOk T (22 :: ts) al) : ∃ (l : List Int) (al' : _), al = .pv (encInts l) :: al' ∧ ArgsOk T ts al' := by
  obtain ⟨q, al', rfl, h1, h2⟩ := args_one (by kernel_rfl) h
  obtain ⟨l, h⟩ := in_ints h1
  injection h with h; subst h
  exact ⟨l, al', rfl, h2⟩
end Go.Proofs.YtihpjcmloecaaaaGreat.Cw
