/-
  Part 6 of the proof (O6, O7, O8, O9, O10, O11, O12, O13, O14, O15, O16, O17, O18, O19): what later parts use. No conditions.
-/
import Derived.Test.YtmaambipopgdkaaGreatMX5

/-
  Contracts: the options of a class (reference).
-/
namespace Go.Proofs.YtmaambipopgdkaaGreat.Cw
open Go.Cw Go.Proofs
set_option linter.unusedVariables false
set_option maxRecDepth 100000
set_option maxHeartbeats 8000000

theorem upto_app {α β : Type} {l : List α} {a : α} {f : Nat → α → Option β} : upto (l ++ [a]) f (l.length + 1) = upto l f l.length ++ (f l.length a).toList := by
  unfold upto
  rw [List.range_succ, List.filterMap_append]
  have h1 : ∀ (xs : List Nat), (∀ i ∈ xs, i < l.length) → xs.filterMap (fun i => ((l ++ [a])[i]?).bind (f i)) = xs.filterMap fun i => (l[i]?).bind (f i) := fun xs => by
    induction xs with
    | nil => intro _; rfl
    | cons x xs ih =>
      intro h
      rw [List.filterMap_cons, List.filterMap_cons, ih fun i hi => h i (List.mem_cons_of_mem _ hi), List.getElem?_append_left (h x (List.mem_cons_self ..))]
  rw [h1 _ fun i hi => List.mem_range.1 hi]
  have h2 : (l ++ [a])[l.length]? = some a := by simp
  rw [List.filterMap_cons, h2, List.filterMap_nil]
  show _ ++ (match f l.length a with | none => [] | some b => [b]) = _
  cases f l.length a <;> rfl
noncomputable def bothF (r : Reg) (c : Class) (t : Time) : Nat → Room → Option Placed := fun i x => if pB (roomFits x c) && pB (apartB x.closed t) then some ⟨t, i⟩ else none
theorem both_eq {r : Reg} {c : Class} {t : Time} : ∀ k : Nat, k ≤ r.rooms.length → upto (roomsV r c k) (openF r t) (roomsV r c k).length = upto r.rooms (bothF r c t) k
  | 0, _ => rfl
  | k + 1, h => by
    obtain ⟨x, hx⟩ := getE (l := r.rooms) (i := k) (by omega)
    have ih := both_eq k (by omega) (r := r) (c := c) (t := t)
    by_cases h1 : roomFits x c
    · have e : roomsV r c (k + 1) = roomsV r c k ++ [(k : Int)] := upto_some hx (show roomF c k x = some (k : Int) from if_pos (pB_t h1))
      rw [e, List.length_append, show (roomsV r c k).length + [(k : Int)].length = (roomsV r c k).length + 1 from rfl, upto_app, ih]
      by_cases h2 : apartB x.closed t
      · rw [openF_yes hx h2, upto_some (f := bothF r c t) hx (show bothF r c t k x = some ⟨t, k⟩ from if_pos (by rw [pB_t h1, pB_t h2]; rfl))]; rfl
      · rw [openF_no hx h2, upto_none (f := bothF r c t) hx (show bothF r c t k x = none from if_neg (by rw [pB_f h2]; simp))]; simp
    · have e : roomsV r c (k + 1) = roomsV r c k := upto_none hx (show roomF c k x = none from if_neg (by rw [pB_f h1]; simp))
      rw [e, ih, upto_none (f := bothF r c t) hx (show bothF r c t k x = none from if_neg (by rw [pB_f h1]; simp))]
noncomputable def freeT (r : Reg) (c : Class) (t : Time) (k : Nat) : Bool := !busyB (staffV r c k) t
theorem freeT_zero {r : Reg} {c : Class} {t : Time} : freeT r c t 0 = true := rfl
theorem freeT_next {r : Reg} {c : Class} {t : Time} {k : Nat} {s : Str} {x : Lecturer} (hs : c.staff[k]? = some s) (hx : lectAt r s = some x) : freeT r c t (k + 1) = (freeT r c t k && pB (apartB x.away t)) := by
  have e : staffV r c (k + 1) = staffV r c k ++ [x] := upto_some hs hx
  unfold freeT busyB
  rw [e, List.any_append]
  simp
theorem optsT_busy' {r : Reg} {c : Class} {t : Time} (h : freeT r c t c.staff.length = false) : optsT r c t = [] := by
  unfold optsT; rw [if_pos (by simpa [freeT] using h)]
theorem optsT_off' {r : Reg} {c : Class} {t : Time} (h : freeT r c t c.staff.length = true) (h2 : c.seats = 0) : optsT r c t = [⟨t, -1⟩] := by
  unfold optsT; rw [if_neg (by simpa [freeT] using h), if_pos h2]
theorem optsT_in' {r : Reg} {c : Class} {t : Time} (h : freeT r c t c.staff.length = true) (h2 : ¬ c.seats = 0) : optsT r c t = upto r.rooms (bothF r c t) r.rooms.length := by
  unfold optsT; rw [if_neg (by simpa [freeT] using h), if_neg h2, both_eq _ (Nat.le_refl _)]
theorem c_roptions0 (r : Reg) (c : Class) (ho : OptOk r c) : PCall Tryz.prog 44 [ag r.cells, ag c.row] (fun a => Leq a (.tup [.pv (.sl 5 ((optsV r c).map Placed.row)), vint .i64 (optsE r c)])) := by
  obtain ⟨hr, ht, hrn, hrm, haw, hs, hf, hk⟩ := ho
  have htl := times_len ht
  refine acall_of tok mixed 101 rfl (fn := Tryz.f44) (c := Tryz.f44.body.getD .skip) (by kernel_rfl) (by kernel_rfl) (by kernel_rfl) rfl 0 rfl ?_
  repeat' (first | ((change vcFun _ _ _ _ _; refine call_frz rfl (by repeat' (first | trivial | refine And.intro ?_ ?_ | (show 0 + _ ≤ List.length _; simp))) ALeL.refl (c_rtimes c r.grid ht) ?_; rintro _ rfl)) | refine o1 ?_ | refine o2 ?_ | refine k1 ?_ | refine k2 ?_ | refine k4 ?_ | fail)
  refine loop_for (fun i : Nat => [(2, .ptr 0 14 0 0), (3, .ptr 1 9 0 0), (6, .pv (encTimes (timesV c r.grid))), (7, slP 2 5 ((gr (optsF r c) i).map Placed.row)), (8, vint .i64 i)]) (fun i => [some ⟨37, 14, false, .box (pvs r.cells)⟩, some ⟨98, 9, false, .box (pvs c.row)⟩, obP 72 5 ((gr (optsF r c) i).map Placed.row)]) (fun i => i ≤ (timesV c r.grid).length) (fun i => (timesV c r.grid).length - i) 0 (Nat.zero_le _) ?_ ?_
  · exact back [0, 1, 2] rfl rfl (by repeat' (first | exact trivial | exact rfl | refine And.intro ?_ ?_)) (by repeat' (first | exact trivial | exact rfl | refine And.intro ?_ ?_))
  intro i hi
  have hli := gr_len (fun i => optsF_len (r := r) (c := c) (i := i) hrn) i
  rcases Nat.lt_or_ge i (timesV c r.grid).length with hlt | hge3
  · obtain ⟨t, ht1⟩ := getE hlt
    have hFi : optsF r c i = optsT r c t := by unfold optsF; rw [ht1]
    repeat' (first | (refine fh_ob ?_) | refine o1 ?_ | refine o2 ?_ | refine k1 ?_ | refine k2 ?_ | refine k3 ?_ | refine k4 ?_ | refine k6 ?_ | refine And.intro ?_ ?_ | (intro h; first | exact Bool.noConfusion h | exact nz _ h | exact nl h | (simp at h; done) | (simp at h; first | (exfalso; omega) | skip) | skip) | refine eqv_len_map ?_ | fail)
    refine loop_for (fun k : Nat => [(2, .ptr 0 14 0 0), (3, .ptr 1 9 0 0), (6, .pv (encTimes (timesV c r.grid))), (7, slP 2 5 ((gr (optsF r c) i).map Placed.row)), (8, vint .i64 i), (9, vbool (freeT r c t k)), (10, vint .i64 k)]) (fun k => [some ⟨37, 14, false, .box (pvs r.cells)⟩, some ⟨98, 9, false, .box (pvs c.row)⟩, obP 72 5 ((gr (optsF r c) i).map Placed.row)]) (fun k => k ≤ c.staff.length) (fun k => c.staff.length - k) 0 (Nat.zero_le _) ?_ ?_
    · rw [freeT_zero]
      exact back [0, 1, 2] rfl rfl (by repeat' (first | exact trivial | exact rfl | refine kept_ob rfl ?_ | refine And.intro ?_ ?_)) (by repeat' (first | exact trivial | exact rfl | exact ren_get rfl | refine And.intro ?_ ?_))
    intro k hkk
    rcases Nat.lt_or_ge k c.staff.length with hkl | hkg
    · obtain ⟨s, hs1⟩ := getE hkl
      obtain ⟨n, x, hk1, hk2, hk3⟩ := lect_at (hk s (List.mem_of_getElem? hs1))
      have hxa := haw x (List.mem_of_getElem? hk2)
      have hfn := freeT_next (t := t) hs1 hk3
      have hci : PCall Tryz.prog 128 [.pv (.sl 2 (r.staff.map Lecturer.row)), .pv (es s)] (fun a => a = vint .i64 ((n : Nat) : Int)) := by rw [← hk1]; exact c_rlidx r.staff s hr.staff
      repeat' (first | (refine fh_ob ?_) | refine o1 ?_ | refine o2 ?_ | refine k1 ?_ | refine k2 ?_ | refine k3 ?_ | refine k4 ?_ | refine k6 ?_ | refine And.intro ?_ ?_ | refine o3 ?_ | refine o4 ?_ | (intro h; first | exact Bool.noConfusion h | exact nz _ h | exact nl h | (simp at h; done) | (simp at h; first | (exfalso; omega) | skip) | skip) | exact (by kernel_rfl : drawOk _ _ = true) | refine eqv_len_map ?_ | refine eqv_wrap (by omega) (by omega) ?_ | refine ⟨_, _, (by first | rfl | assumption), at_map (by assumption), ?_⟩ | (change vcFunD _ _ _ _ _; refine callD_eq rfl (by repeat' (first | trivial | refine And.intro ?_ ?_ | (show 0 + _ ≤ List.length _; simp))) ALeL.refl (hci) rfl ?_) | (change vcFunD _ _ _ _ _; refine callD_eq rfl (by repeat' (first | trivial | refine And.intro ?_ ?_ | (show 0 + _ ≤ List.length _; simp))) ALeL.refl (c_rfree x t hxa) rfl ?_) | fail)
      · refine ⟨k + 1, by omega, by omega, ?_⟩
        rw [hfn, (by assumption : freeT r c t k = true), Bool.true_and]
        exact back [0, 1, 2] rfl rfl (by repeat' (first | exact trivial | exact rfl | refine kept_ob rfl ?_ | refine And.intro ?_ ?_)) (by repeat' (first | exact trivial | exact rfl | exact ren_get rfl | refine And.intro ?_ ?_))
      · refine ⟨k + 1, by omega, by omega, ?_⟩
        rw [hfn, (by assumption : freeT r c t k = false), Bool.false_and]
        exact back [0, 1, 2] rfl rfl (by repeat' (first | exact trivial | exact rfl | refine kept_ob rfl ?_ | refine And.intro ?_ ?_)) (by repeat' (first | exact trivial | exact rfl | exact ren_get rfl | refine And.intro ?_ ?_))
    obtain rfl : k = c.staff.length := by omega
    repeat' (first | (refine fv_sl ?_) | (refine fh_ob ?_) | ((refine o_app rfl rfl rfl rfl rfl rfl rfl rfl rfl rfl rfl (by rw [List.length_map]; omega) (by rw [List.length_map]; omega) ?_)) | refine o1 ?_ | refine o2 ?_ | refine k1 ?_ | refine k2 ?_ | refine k3 ?_ | refine k4 ?_ | refine k6 ?_ | refine k8 ?_ | refine And.intro ?_ ?_ | (intro h; first | exact Bool.noConfusion h | exact nz _ h | exact nl h | (simp at h; done) | (simp at h; first | (exfalso; omega) | skip) | skip) | refine eqv_len_map ?_ | refine eqv_wrap (by omega) (by omega) ?_ | refine ⟨_, _, (by first | rfl | assumption), at_map (by assumption), ?_⟩ | fail)
    · refine ⟨i + 1, by omega, by omega, ?_⟩
      rw [gr_succ, hFi, optsT_busy' (by assumption), List.append_nil]
      exact back [0, 1, 2] rfl rfl (by repeat' (first | exact trivial | exact rfl | refine kept_ob rfl ?_ | refine And.intro ?_ ?_)) (by repeat' (first | exact trivial | exact rfl | exact ren_get rfl | refine And.intro ?_ ?_))
    · refine ⟨i + 1, by omega, by omega, ?_⟩
      rw [gr_succ, hFi, optsT_off' (by assumption) (by assumption), map_snoc, sl_app, ob_app]
      exact back [0, 1, 4] rfl rfl (by repeat' (first | exact trivial | exact rfl | refine And.intro ?_ ?_)) (by repeat' (first | exact trivial | exact rfl | refine And.intro ?_ ?_))
    have hFk := optsT_in' (r := r) (c := c) (t := t) (by assumption) (by assumption)
    refine loop_for (fun k : Nat => [(2, .ptr 0 14 0 0), (3, .ptr 1 9 0 0), (6, .pv (encTimes (timesV c r.grid))), (7, slP 2 5 ((gr (optsF r c) i ++ upto r.rooms (bothF r c t) k).map Placed.row)), (8, vint .i64 i), (11, vint .i64 k)]) (fun k => [some ⟨37, 14, false, .box (pvs r.cells)⟩, some ⟨98, 9, false, .box (pvs c.row)⟩, obP 72 5 ((gr (optsF r c) i ++ upto r.rooms (bothF r c t) k).map Placed.row)]) (fun k => k ≤ r.rooms.length) (fun k => r.rooms.length - k) 0 (Nat.zero_le _) ?_ ?_
    · rw [upto_zero, List.append_nil]
      exact back [0, 1, 2] rfl rfl (by repeat' (first | exact trivial | exact rfl | refine kept_ob rfl ?_ | refine And.intro ?_ ?_)) (by repeat' (first | exact trivial | exact rfl | exact ren_get rfl | refine And.intro ?_ ?_))
    intro k hk2
    have hul := upto_len (l := r.rooms) (f := bothF r c t) (n := k)
    have hm : (gr (optsF r c) i ++ upto r.rooms (bothF r c t) k).length ≤ 100000 := by rw [List.length_append]; omega
    rcases Nat.lt_or_ge k r.rooms.length with hkl | hkg
    · obtain ⟨x, hx1⟩ := getE hkl
      have hxm := hrm x (List.mem_of_getElem? hx1)
      repeat' (first | (refine fv_sl ?_) | (refine fh_ob ?_) | ((refine o_app rfl rfl rfl rfl rfl rfl rfl rfl rfl rfl rfl (by rw [List.length_map]; omega) (by rw [List.length_map]; omega) ?_)) | refine o1 ?_ | refine o2 ?_ | refine k1 ?_ | refine k2 ?_ | refine k3 ?_ | refine k4 ?_ | refine k6 ?_ | refine And.intro ?_ ?_ | refine o3 ?_ | refine o4 ?_ | (intro h; first | exact Bool.noConfusion h | exact nz _ h | exact nl h | (simp at h; done) | (simp at h; first | (exfalso; omega) | skip) | skip) | exact (by kernel_rfl : drawOk _ _ = true) | refine eqv_len_map ?_ | refine eqv_wrap (by omega) (by omega) ?_ | refine ⟨_, _, (by first | rfl | assumption), at_map (by assumption), ?_⟩ | (change vcFunD _ _ _ _ _; refine callD_eq rfl (by repeat' (first | trivial | refine And.intro ?_ ?_ | (show 0 + _ ≤ List.length _; simp))) ALeL.refl (c_rroomfits x c hxm.1 hf) rfl ?_) | (change vcFunD _ _ _ _ _; refine callD_eq rfl (by repeat' (first | trivial | refine And.intro ?_ ?_ | (show 0 + _ ≤ List.length _; simp))) ALeL.refl (c_ropen x t hxm.2) rfl ?_) | fail)
      all_goals refine ⟨k + 1, by omega, by omega, ?_⟩
      all_goals first
        | (rw [upto_some (f := bothF r c t) hx1 (show bothF r c t k x = some ⟨t, k⟩ from if_pos (by rw [pB_t (by assumption), pB_t (by assumption)]; rfl)), ← List.append_assoc, map_snoc, sl_app, ob_app]
           exact back [0, 1, 4] rfl rfl (by repeat' (first | exact trivial | exact rfl | refine And.intro ?_ ?_)) (by repeat' (first | exact trivial | exact rfl | refine And.intro ?_ ?_)))
        | (rw [upto_none (f := bothF r c t) hx1 (show bothF r c t k x = none from if_neg (by rw [pB_f (by assumption : ¬ roomFits x c)]; simp))]
           exact back [0, 1, 2] rfl rfl (by repeat' (first | exact trivial | exact rfl | refine kept_ob rfl ?_ | refine And.intro ?_ ?_)) (by repeat' (first | exact trivial | exact rfl | exact ren_get rfl | refine And.intro ?_ ?_)))
        | (rw [upto_none (f := bothF r c t) hx1 (show bothF r c t k x = none from if_neg (by rw [pB_f (by assumption : ¬ apartB x.closed t)]; simp))]
           exact back [0, 1, 2] rfl rfl (by repeat' (first | exact trivial | exact rfl | refine kept_ob rfl ?_ | refine And.intro ?_ ?_)) (by repeat' (first | exact trivial | exact rfl | exact ren_get rfl | refine And.intro ?_ ?_)))
    obtain rfl : k = r.rooms.length := by omega
    repeat' (first | (refine fh_ob ?_) | refine o1 ?_ | refine o2 ?_ | refine k1 ?_ | refine k2 ?_ | refine k3 ?_ | refine k8 ?_ | refine And.intro ?_ ?_ | (intro h; first | exact Bool.noConfusion h | exact nz _ h | exact nl h | (simp at h; done) | (simp at h; first | (exfalso; omega) | skip) | skip) | refine eqv_len_map ?_ | refine eqv_wrap (by omega) (by omega) ?_ | fail)
    refine ⟨i + 1, by omega, by omega, ?_⟩
    rw [gr_succ, hFi, hFk]
    exact back [0, 1, 2] rfl rfl (by repeat' (first | exact trivial | exact rfl | refine kept_ob rfl ?_ | refine And.intro ?_ ?_)) (by repeat' (first | exact trivial | exact rfl | exact ren_get rfl | refine And.intro ?_ ?_))
  obtain rfl : i = (timesV c r.grid).length := by omega
  repeat' (first | (refine fv_sl ?_) | (refine fh_ob ?_) | (refine o_len rfl rfl rfl rfl rfl rfl (List.length_map _) ?_) | refine o1 ?_ | refine o2 ?_ | refine k1 ?_ | refine k2 ?_ | refine k3 ?_ | refine k6 ?_ | refine k7 ?_ | refine k8 ?_ | refine And.intro ?_ ?_ | (intro h; first | exact Bool.noConfusion h | exact nz _ h | exact nl h | (simp at h; done) | (simp at h; first | (exfalso; omega) | skip) | skip) | (change retOk _ _ _ _; refine ret_pure rfl trivial ?_) | refine eqv_len_map ?_ | fail)
  · have h24 : (optsAll r c).length > 24 := by unfold optsAll; omega
    unfold optsV optsE
    rw [if_pos h24, if_pos h24]
    exact ⟨ALe.tup ⟨ALe.pv PLe.nil, ALe.refl, trivial⟩⟩
  · have h24 : ¬ (optsAll r c).length > 24 := by unfold optsAll; omega
    unfold optsV optsE
    rw [if_neg h24, if_neg h24]
    exact ret_sl2 (id := 2) (ty := 72) rfl rfl
theorem c_roptions (r : Reg) (c : Class) (ho : OptOk r c) : PCall Tryz.prog 44 [ag r.cells, ag c.row] (fun a => a = .tup [.pv (.sl 5 ((optsV r c).map Placed.row)), vint .i64 (optsE r c)]) :=
  (c_roptions0 r c ho).weak fun r h => ⟨_, h.le, rfl⟩
end Go.Proofs.YtmaambipopgdkaaGreat.Cw

/-
  What a right registry gives; Options on both sides.
-/
namespace Go.Proofs.YtmaambipopgdkaaGreat.Cw
open Go.Cw Go.Proofs
set_option linter.unusedVariables false
set_option maxRecDepth 100000
set_option maxHeartbeats 4000000

theorem orI_z : ∀ {l : List Int}, orI l = 0 → ∀ x ∈ l, x = 0
  | [], _, x, h => by cases h
  | y :: l, h, x, hx => by
    simp only [orI] at h
    split at h
    · rename_i hy
      rcases List.mem_cons.1 hx with e | e
      · rw [e]; exact hy
      · exact orI_z h x e
    · rename_i hy; exact absurd h hy
theorem regE_z {r : Reg} (h : regE r = 0) : orI (partsE r) = 0 ∧ unknownB r = false := by
  unfold regE at h
  split at h
  · rename_i h1; exact absurd h h1
  · rename_i h1
    split at h
    · omega
    · rename_i h2; exact ⟨by simpa using h1, by simpa using h2⟩
theorem room_z {l : List Room} {g : Grid} {w : Int} (h : roomsE l g w = 0) : ∀ x ∈ l, x.feats.length ≤ 8 ∧ x.closed.length ≤ 24 := by
  unfold roomsE at h
  split at h
  · split at h
    · omega
    · refine all_mem h fun i x hx h0 => ?_
      unfold roomE at h0
      rw [hx] at h0
      dsimp only at h0
      split at h0
      · omega
      · split at h0
        · omega
        · split at h0
          · omega
          · omega
  · omega
theorem staff_z {l : List Lecturer} {g : Grid} {w : Int} (h : staffE l g w = 0) : ∀ x ∈ l, x.away.length ≤ 24 := by
  unfold staffE at h
  split at h
  · omega
  · split at h
    · omega
    · refine all_mem h fun i x hx h0 => ?_
      unfold lectE at h0
      rw [hx] at h0
      dsimp only at h0
      split at h0
      · omega
      · split at h0
        · omega
        · omega
theorem cls_z {c : Class} {g : Grid} {w : Int} (h : clsE c g w = 0) : 1 ≤ c.len ∧ c.len ≤ g.slots ∧ c.pats.length ≤ 8 ∧ c.feats.length ≤ 8 ∧ c.staff.length ≤ 8 ∧ c.starts.length ≤ 24 := by
  unfold clsE at h
  split at h
  · omega
  · split at h
    · omega
    · split at h
      · rename_i h1; exact absurd h h1
      · rename_i hp
        have hp8 : c.pats.length ≤ 8 := by
          have hp : patsE c.pats w = 0 := by simpa using hp
          unfold patsE at hp
          split at hp
          · omega
          · split at hp
            · omega
            · omega
        split at h
        · omega
        · split at h
          · omega
          · split at h
            · omega
            · split at h
              · omega
              · exact ⟨by omega, by omega, hp8, by omega, by omega, by omega⟩
theorem optLens {r : Reg} (h : regE r = 0) : RegL r := by
  have z := orI_z (regE_z h).1
  have g3 : roomsE r.rooms r.grid r.term.weeks = 0 := z _ (by simp [partsE])
  have g5 : staffE r.staff r.grid r.term.weeks = 0 := z _ (by simp [partsE])
  have g6 : classesE r.classes r.grid r.term.weeks = 0 := z _ (by simp [partsE])
  have g7 : currisE r.curris = 0 := z _ (by simp [partsE])
  have g8 : reqsE r.reqs = 0 := z _ (by simp [partsE])
  exact (regS_of g3 g5 g6 g7 g8).lens
theorem optOk {r : Reg} {c : Class} (h : regE r = 0) (hc : c ∈ r.classes) : OptOk r c := by
  obtain ⟨h1, h2⟩ := regE_z h
  have hz := orI_z h1
  have z : ∀ x, x ∈ partsE r → x = 0 := hz
  have g1 : gridE r.grid = 0 := z _ (by simp [partsE])
  have g3 : roomsE r.rooms r.grid r.term.weeks = 0 := z _ (by simp [partsE])
  have g5 : staffE r.staff r.grid r.term.weeks = 0 := z _ (by simp [partsE])
  have g6 : classesE r.classes r.grid r.term.weeks = 0 := z _ (by simp [partsE])
  have g7 : currisE r.curris = 0 := z _ (by simp [partsE])
  have g8 : reqsE r.reqs = 0 := z _ (by simp [partsE])
  have hs := regS_of g3 g5 g6 g7 g8
  have hcl := cls_z ((classes_len g6).2 c hc)
  have hrm := room_z g3
  have hst := staff_z g5
  refine ⟨hs.lens, ⟨gridE_iff.1 g1, ⟨hcl.1, hcl.2.1⟩, by omega, by omega⟩, rooms_len g3, fun x hx => by have := hrm x hx; omega, fun x hx => by have := hst x hx; omega, hcl.2.2.2.2.1, by omega, fun s hsm => ?_⟩
  have h3 : unk1 r = false := by
    unfold unknownB at h2
    cases hu : unk1 r
    · rfl
    · rw [hu] at h2; simp at h2
  cases hb : lcode r.staff s
  · exfalso
    have : unk1 r = true := List.any_eq_true.2 ⟨c, hc, by
      unfold staffB
      rw [Bool.not_not]
      exact List.any_eq_true.2 ⟨s, hsm, by rw [hb]; rfl⟩⟩
    rw [h3] at this; cases this
  · rfl
noncomputable def optionsV (r : Reg) (k : Int) : List Placed × Int := if regE r ≠ 0 then ([], 1) else if k < 0 ∨ (r.classes.length : Int) ≤ k then ([], 3) else match r.classes[k.toNat]? with
  | some c => (optsV r c, optsE r c)
  | none => ([], 3)
theorem optionsV_bad {r : Reg} {k : Int} (h : ¬ regE r = 0) : optionsV r k = ([], 1) := by unfold optionsV; rw [if_pos h]
theorem optionsV_out {r : Reg} {k : Int} (h : regE r = 0) (h2 : k < 0 ∨ (r.classes.length : Int) ≤ k) : optionsV r k = ([], 3) := by unfold optionsV; rw [if_neg (by simp [h]), if_pos h2]
theorem optionsV_at {r : Reg} {n : Nat} {c : Class} (h : regE r = 0) (hc : r.classes[n]? = some c) : optionsV r n = (optsV r c, optsE r c) := by
  have := (List.getElem?_eq_some_iff.1 hc).1
  unfold optionsV; rw [if_neg (by simp [h]), if_neg (by omega), Int.toNat_natCast, hc]
theorem c_Options0 (r : Reg) (k : Int) : PCall Tryz.prog 9 [ag r.cells, vint .i64 k] (fun a => Leq a (.tup [.pv (.sl 5 ((optionsV r k).1.map Placed.row)), vint .i64 (optionsV r k).2])) := by
  by_cases h0 : regE r = 0
  · have hlen := (optLens h0).classes
    by_cases hk : k < 0 ∨ (r.classes.length : Int) ≤ k
    · rw [optionsV_out h0 hk]
      refine acall_of tok mixed 29 rfl (fn := Tryz.f9) (c := Tryz.f9.body.getD .skip) (by kernel_rfl) (by kernel_rfl) (by kernel_rfl) rfl 0 rfl ?_
      repeat' (first | refine o1 ?_ | refine o2 ?_ | refine k1 ?_ | refine k2 ?_ | refine k3 ?_ | refine k4 ?_ | refine k7 ?_ | refine And.intro ?_ ?_ | (intro h; first | exact Bool.noConfusion h | exact nz _ h | exact nl h | (simp at h; done) | (simp at h; first | (exfalso; omega) | skip) | skip) | (change retOk _ _ _ _; refine ret_pure rfl trivial ?_) | refine eqv_len_map ?_ | (change vcFun _ _ _ _ _; refine call_eq rfl (by repeat' (first | trivial | refine And.intro ?_ ?_ | (show 0 + _ ≤ List.length _; simp))) ALeL.refl (c_check r) rfl ?_) | fail)
      all_goals first
        | exact ⟨ALe.tup ⟨ALe.pv PLe.nil, ALe.refl, trivial⟩⟩
        | (exfalso; omega)
    · obtain ⟨n, rfl⟩ : ∃ n : Nat, k = n := ⟨k.toNat, by omega⟩
      obtain ⟨c, hc⟩ := getE (l := r.classes) (i := n) (by omega)
      rw [optionsV_at h0 hc]
      have hok := optOk h0 (List.mem_of_getElem? hc)
      refine acall_of tok mixed 29 rfl (fn := Tryz.f9) (c := Tryz.f9.body.getD .skip) (by kernel_rfl) (by kernel_rfl) (by kernel_rfl) rfl 0 rfl ?_
      repeat' (first | refine o1 ?_ | refine o2 ?_ | refine k1 ?_ | refine k2 ?_ | refine k3 ?_ | refine k4 ?_ | refine k6 ?_ | refine k7 ?_ | refine And.intro ?_ ?_ | refine o3 ?_ | refine o4 ?_ | (intro h; first | exact Bool.noConfusion h | exact nz _ h | exact nl h | (simp at h; done) | (simp at h; first | (exfalso; omega) | skip) | skip) | (change retOk _ _ _ _; refine ret_pure rfl trivial ?_) | exact (by kernel_rfl : drawOk _ _ = true) | refine eqv_len_map ?_ | refine ⟨_, _, (by first | rfl | assumption), at_map (by assumption), ?_⟩ | (change vcFun _ _ _ _ _; refine call_eq rfl (by repeat' (first | trivial | refine And.intro ?_ ?_ | (show 0 + _ ≤ List.length _; simp))) ALeL.refl (c_check r) rfl ?_) | (change vcFunD _ _ _ _ _; refine callD_eq rfl (by repeat' (first | trivial | refine And.intro ?_ ?_ | (show 0 + _ ≤ List.length _; simp))) ALeL.refl (c_options r c hok) rfl ?_) | fail)
      all_goals first
        | exact ⟨ALe.refl⟩
        | (exfalso; omega)
  · rw [optionsV_bad h0]
    refine acall_of tok mixed 29 rfl (fn := Tryz.f9) (c := Tryz.f9.body.getD .skip) (by kernel_rfl) (by kernel_rfl) (by kernel_rfl) rfl 0 rfl ?_
    repeat' (first | refine o1 ?_ | refine o2 ?_ | refine k1 ?_ | refine k2 ?_ | refine k3 ?_ | refine k4 ?_ | refine k7 ?_ | refine And.intro ?_ ?_ | (intro h; first | exact Bool.noConfusion h | exact nz _ h | exact nl h | (simp at h; done) | (simp at h; first | (exfalso; omega) | skip) | skip) | (change retOk _ _ _ _; refine ret_pure rfl trivial ?_) | (change vcFun _ _ _ _ _; refine call_eq rfl (by repeat' (first | trivial | refine And.intro ?_ ?_ | (show 0 + _ ≤ List.length _; simp))) ALeL.refl (c_check r) rfl ?_) | fail)
    all_goals first
      | exact ⟨ALe.tup ⟨ALe.pv PLe.nil, ALe.refl, trivial⟩⟩
      | (exfalso; exact h0 (by assumption))
theorem c_rOptions0 (r : Reg) (k : Int) : PCall Tryz.prog 10 [ag r.cells, vint .i64 k] (fun a => Leq a (.tup [.pv (.sl 5 ((optionsV r k).1.map Placed.row)), vint .i64 (optionsV r k).2])) := by
  by_cases h0 : regE r = 0
  · have hlen := (optLens h0).classes
    by_cases hk : k < 0 ∨ (r.classes.length : Int) ≤ k
    · rw [optionsV_out h0 hk]
      refine acall_of tok mixed 27 rfl (fn := Tryz.f10) (c := Tryz.f10.body.getD .skip) (by kernel_rfl) (by kernel_rfl) (by kernel_rfl) rfl 0 rfl ?_
      repeat' (first | refine o1 ?_ | refine o2 ?_ | refine k1 ?_ | refine k2 ?_ | refine k3 ?_ | refine k6 ?_ | refine k7 ?_ | refine And.intro ?_ ?_ | (intro h; first | exact Bool.noConfusion h | exact nz _ h | exact nl h | (simp at h; done) | (simp at h; first | (exfalso; omega) | skip) | skip) | (change retOk _ _ _ _; refine ret_pure rfl trivial ?_) | refine eqv_len_map ?_ | (change vcFun _ _ _ _ _; refine call_eq rfl (by repeat' (first | trivial | refine And.intro ?_ ?_ | (show 0 + _ ≤ List.length _; simp))) ALeL.refl (c_rcheckR r) rfl ?_) | fail)
      all_goals first
        | exact ⟨ALe.tup ⟨ALe.pv PLe.nil, ALe.refl, trivial⟩⟩
        | (exfalso; omega)
    · obtain ⟨n, rfl⟩ : ∃ n : Nat, k = n := ⟨k.toNat, by omega⟩
      obtain ⟨c, hc⟩ := getE (l := r.classes) (i := n) (by omega)
      rw [optionsV_at h0 hc]
      have hok := optOk h0 (List.mem_of_getElem? hc)
      refine acall_of tok mixed 27 rfl (fn := Tryz.f10) (c := Tryz.f10.body.getD .skip) (by kernel_rfl) (by kernel_rfl) (by kernel_rfl) rfl 0 rfl ?_
      repeat' (first | refine o1 ?_ | refine o2 ?_ | refine k1 ?_ | refine k2 ?_ | refine k3 ?_ | refine k6 ?_ | refine k7 ?_ | refine And.intro ?_ ?_ | refine o3 ?_ | refine o4 ?_ | (intro h; first | exact Bool.noConfusion h | exact nz _ h | exact nl h | (simp at h; done) | (simp at h; first | (exfalso; omega) | skip) | skip) | (change retOk _ _ _ _; refine ret_pure rfl trivial ?_) | exact (by kernel_rfl : drawOk _ _ = true) | refine eqv_len_map ?_ | refine ⟨_, _, (by first | rfl | assumption), at_map (by assumption), ?_⟩ | (change vcFun _ _ _ _ _; refine call_eq rfl (by repeat' (first | trivial | refine And.intro ?_ ?_ | (show 0 + _ ≤ List.length _; simp))) ALeL.refl (c_rcheckR r) rfl ?_) | (change vcFunD _ _ _ _ _; refine callD_eq rfl (by repeat' (first | trivial | refine And.intro ?_ ?_ | (show 0 + _ ≤ List.length _; simp))) ALeL.refl (c_roptions r c hok) rfl ?_) | fail)
      all_goals first
        | exact ⟨ALe.refl⟩
        | (exfalso; omega)
  · rw [optionsV_bad h0]
    refine acall_of tok mixed 27 rfl (fn := Tryz.f10) (c := Tryz.f10.body.getD .skip) (by kernel_rfl) (by kernel_rfl) (by kernel_rfl) rfl 0 rfl ?_
    repeat' (first | refine o1 ?_ | refine o2 ?_ | refine k1 ?_ | refine k2 ?_ | refine k3 ?_ | refine k7 ?_ | refine And.intro ?_ ?_ | (intro h; first | exact Bool.noConfusion h | exact nz _ h | exact nl h | (simp at h; done) | (simp at h; first | (exfalso; omega) | skip) | skip) | (change retOk _ _ _ _; refine ret_pure rfl trivial ?_) | (change vcFun _ _ _ _ _; refine call_eq rfl (by repeat' (first | trivial | refine And.intro ?_ ?_ | (show 0 + _ ≤ List.length _; simp))) ALeL.refl (c_rcheckR r) rfl ?_) | fail)
    all_goals first
      | exact ⟨ALe.tup ⟨ALe.pv PLe.nil, ALe.refl, trivial⟩⟩
      | (exfalso; exact h0 (by assumption))
theorem c_Options (r : Reg) (k : Int) : PCall Tryz.prog 9 [ag r.cells, vint .i64 k] (fun a => a = .tup [.pv (.sl 5 ((optionsV r k).1.map Placed.row)), vint .i64 (optionsV r k).2]) :=
  (c_Options0 r k).weak fun r h => ⟨_, h.le, rfl⟩
theorem c_rOptions (r : Reg) (k : Int) : PCall Tryz.prog 10 [ag r.cells, vint .i64 k] (fun a => a = .tup [.pv (.sl 5 ((optionsV r k).1.map Placed.row)), vint .i64 (optionsV r k).2]) :=
  (c_rOptions0 r k).weak fun r h => ⟨_, h.le, rfl⟩
end Go.Proofs.YtmaambipopgdkaaGreat.Cw

/-
  Contracts: equal places, common members of staff.
-/
namespace Go.Proofs.YtmaambipopgdkaaGreat.Cw
open Go.Cw Go.Proofs
set_option linter.unusedVariables false
set_option maxRecDepth 100000
set_option maxHeartbeats 4000000

theorem c_samePlaces (l : List Placed) (hl : l.length ≤ 100000) : PCall Tryz.prog 13 [.pv (.sl 5 (l.map Placed.row)), .pv (.sl 5 (l.map Placed.row))] (fun a => a = vbool true) := by
  refine acall_of tok mixed 26 rfl (fn := Tryz.f13) (c := Tryz.f13.body.getD .skip) (by kernel_rfl) (by kernel_rfl) (by kernel_rfl) rfl 0 rfl ?_
  repeat' (first | refine o1 ?_ | refine o2 ?_ | refine k1 ?_ | refine k2 ?_ | refine k3 ?_ | refine k4 ?_ | refine k6 ?_ | refine And.intro ?_ ?_ | (intro h; first | exact Bool.noConfusion h | exact nz _ h | exact nl h | (simp at h; done) | (simp at h; first | (exfalso; omega) | skip) | skip) | refine eqv_len_map ?_ | fail)
  refine loop_at (fun i : Nat => [(5, vint .i64 i)]) (fun _ => []) (fun i => i ≤ l.length) (fun i => l.length - i) 0 (Nat.zero_le _) (by repeat' (first | exact trivial | exact ⟨_, rfl, ALe.refl⟩ | refine And.intro ?_ ?_)) (by repeat' (first | exact trivial)) ?_
  intro i hi
  rcases Nat.lt_or_ge i l.length with hlt | hge
  · obtain ⟨q, hq⟩ := getE hlt
    repeat' (first | refine o1 ?_ | refine o2 ?_ | refine k1 ?_ | refine k2 ?_ | refine k3 ?_ | refine k4 ?_ | refine k6 ?_ | refine And.intro ?_ ?_ | refine o3 ?_ | refine o4 ?_ | (intro h; first | exact Bool.noConfusion h | exact nz _ h | exact nl h | (simp at h; done) | (simp at h; first | (exfalso; omega) | skip) | skip) | exact (by kernel_rfl : drawOk _ _ = true) | refine eqv_len_map ?_ | refine eqv_wrap (by omega) (by omega) ?_ | refine ⟨_, _, (by first | rfl | assumption), at_map (by assumption), ?_⟩ | fail)
    all_goals first
      | exact ⟨i + 1, hlt, by omega, back [] rfl rfl trivial (by repeat' (first | exact trivial | exact rfl | refine And.intro ?_ ?_))⟩
      | (exfalso; simp_all; done)
  · repeat' (first | refine o1 ?_ | refine o2 ?_ | refine k1 ?_ | refine k2 ?_ | refine k3 ?_ | refine k7 ?_ | refine k8 ?_ | refine And.intro ?_ ?_ | (intro h; first | exact Bool.noConfusion h | exact nz _ h | exact nl h | (simp at h; done) | (simp at h; first | (exfalso; omega) | skip) | skip) | (change retOk _ _ _ _; refine ret_pure rfl trivial ?_) | refine eqv_len_map ?_ | fail)
    rfl
def sharedP (a b : Class) : Prop := ∃ s ∈ a.staff, s ∈ b.staff
theorem c_shared (a b : Class) (ha : a.staff.length ≤ 100000) (hb : b.staff.length ≤ 100000) : PCall Tryz.prog 47 [ag a.row, ag b.row] (fun r => r = vbool (pB (sharedP a b))) := by
  refine acall_of tok mixed 32 rfl (fn := Tryz.f47) (c := Tryz.f47.body.getD .skip) (by kernel_rfl) (by kernel_rfl) (by kernel_rfl) rfl 0 rfl ?_
  repeat' (first | refine o1 ?_ | refine o2 ?_ | refine k1 ?_ | refine k2 ?_ | refine k4 ?_ | fail)
  refine loop_in (fun i : Nat => [(5, vint .i64 i)]) (fun _ => [some ⟨98, 9, false, .box (pvs a.row)⟩, some ⟨98, 9, false, .box (pvs b.row)⟩]) (fun i => i ≤ a.staff.length ∧ ∀ j, j < i → ∀ q, a.staff[j]? = some q → memS b.staff q = false) (fun i => a.staff.length - i) 0 ⟨by omega, fun j hj => by omega⟩ ⟨?_, ?_⟩
  · exact back [0, 1] rfl rfl ⟨rfl, rfl, trivial⟩ (by repeat' (first | exact trivial | exact rfl | refine And.intro ?_ ?_))
  intro i ⟨hi, hall⟩
  rcases Nat.lt_or_ge i a.staff.length with hlt | hge
  · obtain ⟨q, hq⟩ := getE hlt
    repeat' (first | refine o1 ?_ | refine o2 ?_ | refine k1 ?_ | refine k2 ?_ | refine k3 ?_ | refine k4 ?_ | refine k6 ?_ | refine And.intro ?_ ?_ | (intro h; first | exact Bool.noConfusion h | exact nz _ h | exact nl h | (simp at h; done) | (simp at h; first | (exfalso; omega) | skip) | skip) | refine eqv_len_map ?_ | fail)
    refine loop_in (fun k : Nat => [(6, vint .i64 k)]) (fun _ => [some ⟨98, 9, false, .box (pvs a.row)⟩, some ⟨98, 9, false, .box (pvs b.row)⟩]) (fun k => k ≤ b.staff.length ∧ ∀ j, j < k → ∀ s, b.staff[j]? = some s → s ≠ q) (fun k => b.staff.length - k) 0 ⟨by omega, fun j hj => by omega⟩ ⟨?_, ?_⟩
    · exact back [0, 1] rfl rfl ⟨rfl, rfl, trivial⟩ (by repeat' (first | exact trivial | exact rfl | refine And.intro ?_ ?_))
    intro k ⟨hk, hall2⟩
    rcases Nat.lt_or_ge k b.staff.length with hkl | hkg
    · obtain ⟨s, hs⟩ := getE hkl
      repeat' (first | refine o1 ?_ | refine o2 ?_ | refine k1 ?_ | refine k2 ?_ | refine k3 ?_ | refine k4 ?_ | refine k6 ?_ | refine k7 ?_ | refine And.intro ?_ ?_ | refine o3 ?_ | refine o4 ?_ | (intro h; first | exact Bool.noConfusion h | exact nz _ h | exact nl h | (simp at h; done) | (simp at h; first | (exfalso; omega) | skip) | skip) | (change retOk _ _ _ _; refine ret_pure rfl trivial ?_) | exact (by kernel_rfl : drawOk _ _ = true) | refine eqv_len_map ?_ | refine eqv_wrap (by omega) (by omega) ?_ | refine ⟨_, _, (by first | rfl | assumption), at_map (by assumption), ?_⟩ | fail)
      all_goals first
        | exact congrArg vbool (pB_t (show sharedP a b from ⟨q, List.mem_of_getElem? hq, by rw [sEq_iff.1 (by assumption : sEq q s = true)]; exact List.mem_of_getElem? hs⟩)).symm
        | exact ⟨k + 1, ⟨by omega, all_lt_succ hall2 fun q' h' => by rw [hs] at h'; cases h'; exact fun e => sEq_f.1 (by assumption : sEq q s = false) e.symm⟩, by omega, back [0, 1] rfl rfl ⟨rfl, rfl, trivial⟩ (by repeat' (first | exact trivial | exact rfl | refine And.intro ?_ ?_))⟩
    · have hno : memS b.staff q = false := by
        unfold memS
        exact pB_f fun hm => by
          obtain ⟨j, hj⟩ := List.getElem?_of_mem hm
          exact hall2 j (by have := (List.getElem?_eq_some_iff.1 hj).1; omega) q hj rfl
      repeat' (first | refine o1 ?_ | refine o2 ?_ | refine k1 ?_ | refine k2 ?_ | refine k3 ?_ | refine k8 ?_ | refine And.intro ?_ ?_ | (intro h; first | exact Bool.noConfusion h | exact nz _ h | exact nl h | (simp at h; done) | (simp at h; first | (exfalso; omega) | skip) | skip) | refine eqv_len_map ?_ | refine eqv_wrap (by omega) (by omega) ?_ | fail)
      exact ⟨i + 1, ⟨by omega, all_lt_succ hall fun q' h' => by rw [hq] at h'; cases h'; exact hno⟩, by omega, back [0, 1] rfl rfl ⟨rfl, rfl, trivial⟩ (by repeat' (first | exact trivial | exact rfl | refine And.intro ?_ ?_))⟩
  · repeat' (first | refine o1 ?_ | refine o2 ?_ | refine k1 ?_ | refine k2 ?_ | refine k3 ?_ | refine k7 ?_ | refine k8 ?_ | refine And.intro ?_ ?_ | (intro h; first | exact Bool.noConfusion h | exact nz _ h | exact nl h | (simp at h; done) | (simp at h; first | (exfalso; omega) | skip) | skip) | (change retOk _ _ _ _; refine ret_pure rfl trivial ?_) | refine eqv_len_map ?_ | fail)
    exact congrArg vbool (pB_f (show ¬ sharedP a b from fun ⟨s, h1, h2⟩ => by
      obtain ⟨j, hj⟩ := List.getElem?_of_mem h1
      exact memS_f (hall j (by have := (List.getElem?_eq_some_iff.1 hj).1; omega) s hj) h2)).symm
end Go.Proofs.YtmaambipopgdkaaGreat.Cw

/-
  Contracts: a model equals itself (models without charges and counts).
-/
namespace Go.Proofs.YtmaambipopgdkaaGreat.Cw
open Go.Cw Go.Proofs
set_option linter.unusedVariables false
set_option maxRecDepth 100000
set_option maxHeartbeats 4000000

theorem c_sameInts17 (l : List Int) (hl : l.length ≤ 100000) : PCall Tryz.prog 50 [.pv (encInts l), .pv (encInts l)] (fun a => a = vbool true) := by
  refine acall_of tok mixed 26 rfl (fn := Tryz.f50) (c := Tryz.f50.body.getD .skip) (by kernel_rfl) (by kernel_rfl) (by kernel_rfl) rfl 0 rfl ?_
  repeat' (first | refine o1 ?_ | refine o2 ?_ | refine k1 ?_ | refine k2 ?_ | refine k3 ?_ | refine k4 ?_ | refine k6 ?_ | refine And.intro ?_ ?_ | (intro h; first | exact Bool.noConfusion h | exact nz _ h | exact nl h | (simp at h; done) | (simp at h; first | (exfalso; omega) | skip) | skip) | refine eqv_len_map ?_ | fail)
  refine loop_at (fun i : Nat => [(5, vint .i64 i)]) (fun _ => []) (fun i => i ≤ l.length) (fun i => l.length - i) 0 (Nat.zero_le _) (by repeat' (first | exact trivial | exact ⟨_, rfl, ALe.refl⟩ | refine And.intro ?_ ?_)) (by repeat' (first | exact trivial)) ?_
  intro i hi
  rcases Nat.lt_or_ge i l.length with hlt | hge
  · obtain ⟨q, hq⟩ := getE hlt
    repeat' (first | refine o1 ?_ | refine o2 ?_ | refine k1 ?_ | refine k2 ?_ | refine k3 ?_ | refine k4 ?_ | refine k6 ?_ | refine And.intro ?_ ?_ | refine o3 ?_ | refine o4 ?_ | (intro h; first | exact Bool.noConfusion h | exact nz _ h | exact nl h | (simp at h; done) | (simp at h; first | (exfalso; omega) | skip) | skip) | exact (by kernel_rfl : drawOk _ _ = true) | refine eqv_len_map ?_ | refine eqv_wrap (by omega) (by omega) ?_ | refine ⟨_, _, (by first | rfl | assumption), at_map (by assumption), ?_⟩ | fail)
    all_goals first
      | exact ⟨i + 1, hlt, by omega, back [] rfl rfl trivial (by repeat' (first | exact trivial | exact rfl | refine And.intro ?_ ?_))⟩
      | (exfalso; simp_all; done)
  · repeat' (first | refine o1 ?_ | refine o2 ?_ | refine k1 ?_ | refine k2 ?_ | refine k3 ?_ | refine k7 ?_ | refine k8 ?_ | refine And.intro ?_ ?_ | (intro h; first | exact Bool.noConfusion h | exact nz _ h | exact nl h | (simp at h; done) | (simp at h; first | (exfalso; omega) | skip) | skip) | (change retOk _ _ _ _; refine ret_pure rfl trivial ?_) | refine eqv_len_map ?_ | fail)
    rfl
def plainOpt (p : Placed) : Opt := ⟨p, []⟩
theorem c_sameOpts (l : List Placed) (hl : l.length ≤ 100000) : PCall Tryz.prog 49 [.pv (.sl 6 ((l.map plainOpt).map Opt.row)), .pv (.sl 6 ((l.map plainOpt).map Opt.row))] (fun a => a = vbool true) := by
  have hll : (l.map plainOpt).length ≤ 100000 := by rw [List.length_map]; exact hl
  have hch : ∀ o ∈ l.map plainOpt, o.charges = [] := fun o ho => by obtain ⟨p, -, rfl⟩ := List.mem_map.1 ho; rfl
  generalize l.map plainOpt = m at *
  refine acall_of tok mixed 71 rfl (fn := Tryz.f49) (c := Tryz.f49.body.getD .skip) (by kernel_rfl) (by kernel_rfl) (by kernel_rfl) rfl 0 rfl ?_
  repeat' (first | refine o1 ?_ | refine o2 ?_ | refine k1 ?_ | refine k2 ?_ | refine k3 ?_ | refine k4 ?_ | refine k6 ?_ | refine And.intro ?_ ?_ | (intro h; first | exact Bool.noConfusion h | exact nz _ h | exact nl h | (simp at h; done) | (simp at h; first | (exfalso; omega) | skip) | skip) | refine eqv_len_map ?_ | fail)
  refine loop_at (fun i : Nat => [(5, vint .i64 i)]) (fun _ => []) (fun i => i ≤ m.length) (fun i => m.length - i) 0 (Nat.zero_le _) (by repeat' (first | exact trivial | exact ⟨_, rfl, ALe.refl⟩ | refine And.intro ?_ ?_)) (by repeat' (first | exact trivial)) ?_
  intro i hi
  rcases Nat.lt_or_ge i m.length with hlt | hge
  · obtain ⟨⟨p, ch⟩, hq⟩ := getE hlt
    have hc0 := hch _ (List.mem_of_getElem? hq)
    dsimp only at hc0
    subst hc0
    repeat' (first | refine o1 ?_ | refine o2 ?_ | refine k1 ?_ | refine k2 ?_ | refine k3 ?_ | refine k4 ?_ | refine k6 ?_ | refine And.intro ?_ ?_ | refine o3 ?_ | refine o4 ?_ | (intro h; first | exact Bool.noConfusion h | exact nz _ h | exact nl h | (simp at h; done) | (simp at h; first | (exfalso; omega) | skip) | skip) | exact (by kernel_rfl : drawOk _ _ = true) | refine eqv_len_map ?_ | refine ⟨_, _, (by first | rfl | assumption), at_map (by assumption), ?_⟩ | fail)
    all_goals first
      | (exfalso; simp_all; done)
      | skip
    refine loop_at (fun k : Nat => [(6, vint .i64 k)]) (fun _ => []) (fun k => k = 0) (fun k => 0) 0 rfl (by repeat' (first | exact trivial | exact ⟨_, rfl, ALe.refl⟩ | refine And.intro ?_ ?_)) (by repeat' (first | exact trivial)) ?_
    rintro k rfl
    repeat' (first | refine o1 ?_ | refine o2 ?_ | refine k1 ?_ | refine k2 ?_ | refine k3 ?_ | refine k8 ?_ | refine And.intro ?_ ?_ | (intro h; first | exact Bool.noConfusion h | exact nz _ h | exact nl h | (simp at h; done) | (simp at h; first | (exfalso; omega) | skip) | skip) | refine eqv_len_map ?_ | refine eqv_wrap (by omega) (by omega) ?_ | refine ⟨_, _, (by first | rfl | assumption), at_map (by assumption), ?_⟩ | fail)
    all_goals first
      | exact ⟨i + 1, hlt, by omega, back [] rfl rfl trivial (by repeat' (first | exact trivial | exact rfl | refine And.intro ?_ ?_))⟩
      | (exfalso; omega)
  · repeat' (first | refine o1 ?_ | refine o2 ?_ | refine k1 ?_ | refine k2 ?_ | refine k3 ?_ | refine k7 ?_ | refine k8 ?_ | refine And.intro ?_ ?_ | (intro h; first | exact Bool.noConfusion h | exact nz _ h | exact nl h | (simp at h; done) | (simp at h; first | (exfalso; omega) | skip) | skip) | (change retOk _ _ _ _; refine ret_pure rfl trivial ?_) | refine eqv_len_map ?_ | fail)
    rfl
end Go.Proofs.YtmaambipopgdkaaGreat.Cw

/-
  Contracts: a built model equals itself.
-/
namespace Go.Proofs.YtmaambipopgdkaaGreat.Cw
open Go.Cw Go.Proofs
set_option linter.unusedVariables false
set_option maxRecDepth 100000
set_option maxHeartbeats 8000000

/-- A model as it is built: options without charges, no counts. -/
def builtM (L : List (List Placed)) (P : List Pair) (n : Int) : Model := ⟨L.map fun l => l.map plainOpt, P, [], n⟩
structure BuiltOk (L : List (List Placed)) (P : List Pair) : Prop where
  cls : L.length ≤ 100000
  opt : ∀ l ∈ L, l.length ≤ 100000
  prs : P.length ≤ 100000
  tab : ∀ p ∈ P, p.table.length ≤ 100000
theorem c_same (L : List (List Placed)) (P : List Pair) (n : Int) (h : BuiltOk L P) : PCall Tryz.prog 14 [ag (builtM L P n).cells, ag (builtM L P n).cells] (fun a => a = vbool true) := by
  obtain ⟨hc, ho, hp, ht⟩ := h
  have hco : ∀ m ∈ (builtM L P n).classes, PCall Tryz.prog 49 [.pv (.sl 6 (m.map Opt.row)), .pv (.sl 6 (m.map Opt.row))] (fun a => a = vbool true) := fun m hm => by
    obtain ⟨l, hl, rfl⟩ := List.mem_map.1 hm
    exact c_sameOpts l (ho l hl)
  have hcl : (builtM L P n).classes.length ≤ 100000 := by show (L.map _).length ≤ _; rw [List.length_map]; exact hc
  have hpp : (builtM L P n).pairs = P := rfl
  have hct : (builtM L P n).counts = [] := rfl
  generalize builtM L P n = M at *
  obtain ⟨C, P2, N2, n2⟩ := M
  dsimp only at hco hcl hpp hct
  subst hpp hct
  refine acall_of tok mixed 171 rfl (fn := Tryz.f14) (c := Tryz.f14.body.getD .skip) (by kernel_rfl) (by kernel_rfl) (by kernel_rfl) rfl 0 rfl ?_
  repeat' (first | refine o1 ?_ | refine o2 ?_ | refine k1 ?_ | refine k2 ?_ | refine k3 ?_ | refine k4 ?_ | refine k6 ?_ | refine And.intro ?_ ?_ | (intro h; first | exact Bool.noConfusion h | exact nz _ h | exact nl h | (simp at h; done) | (simp at h; first | (exfalso; omega) | skip) | skip) | refine eqv_len_map ?_ | fail)
  all_goals try (exfalso; simp_all; done)
  refine loop_in (fun i : Nat => [(5, vint .i64 i)]) (fun _ => [some ⟨47, 4, false, .box (pvs (Model.cells ⟨C, P2, [], n2⟩))⟩, some ⟨47, 4, false, .box (pvs (Model.cells ⟨C, P2, [], n2⟩))⟩]) (fun i => i ≤ C.length) (fun i => C.length - i) 0 (Nat.zero_le _) ⟨?_, ?_⟩
  · exact back [0, 1] rfl rfl ⟨rfl, rfl, trivial⟩ (by repeat' (first | exact trivial | exact rfl | refine And.intro ?_ ?_))
  intro i hi
  rcases Nat.lt_or_ge i C.length with hlt | hge
  · obtain ⟨q, hq⟩ := getE hlt
    have hcq := hco q (List.mem_of_getElem? hq)
    repeat' (first | refine o1 ?_ | refine o2 ?_ | refine k1 ?_ | refine k2 ?_ | refine k3 ?_ | refine k4 ?_ | refine k6 ?_ | refine And.intro ?_ ?_ | refine o3 ?_ | refine o4 ?_ | (intro h; first | exact Bool.noConfusion h | exact nz _ h | exact nl h | (simp at h; done) | (simp at h; first | (exfalso; omega) | skip) | skip) | exact (by kernel_rfl : drawOk _ _ = true) | refine eqv_len_map ?_ | refine eqv_wrap (by omega) (by omega) ?_ | refine ⟨_, _, (by first | rfl | assumption), at_map (by assumption), ?_⟩ | (change vcFunD _ _ _ _ _; refine callD_eq rfl (by repeat' (first | trivial | refine And.intro ?_ ?_ | (show 0 + _ ≤ List.length _; simp))) ALeL.refl (hcq) rfl ?_) | fail)
    all_goals first
      | exact ⟨i + 1, hlt, by omega, back [0, 1] rfl rfl ⟨rfl, rfl, trivial⟩ (by repeat' (first | exact trivial | exact rfl | refine And.intro ?_ ?_))⟩
  repeat' (first | refine o1 ?_ | refine o2 ?_ | refine k1 ?_ | refine k2 ?_ | refine k3 ?_ | refine k4 ?_ | refine k8 ?_ | refine And.intro ?_ ?_ | (intro h; first | exact Bool.noConfusion h | exact nz _ h | exact nl h | (simp at h; done) | (simp at h; first | (exfalso; omega) | skip) | skip) | refine eqv_len_map ?_ | fail)
  refine loop_in (fun i : Nat => [(6, vint .i64 i)]) (fun _ => [some ⟨47, 4, false, .box (pvs (Model.cells ⟨C, P2, [], n2⟩))⟩, some ⟨47, 4, false, .box (pvs (Model.cells ⟨C, P2, [], n2⟩))⟩]) (fun i => i ≤ P2.length) (fun i => P2.length - i) 0 (Nat.zero_le _) ⟨?_, ?_⟩
  · exact back [0, 1] rfl rfl ⟨rfl, rfl, trivial⟩ (by repeat' (first | exact trivial | exact rfl | refine And.intro ?_ ?_))
  intro i hi
  rcases Nat.lt_or_ge i P2.length with hlt | hge
  · obtain ⟨q, hq⟩ := getE hlt
    have hcq := c_sameInts17 q.table (ht q (List.mem_of_getElem? hq))
    repeat' (first | refine o1 ?_ | refine o2 ?_ | refine k1 ?_ | refine k2 ?_ | refine k3 ?_ | refine k4 ?_ | refine k6 ?_ | refine And.intro ?_ ?_ | refine o3 ?_ | refine o4 ?_ | (intro h; first | exact Bool.noConfusion h | exact nz _ h | exact nl h | (simp at h; done) | (simp at h; first | (exfalso; omega) | skip) | skip) | exact (by kernel_rfl : drawOk _ _ = true) | refine eqv_len_map ?_ | refine eqv_wrap (by omega) (by omega) ?_ | refine ⟨_, _, (by first | rfl | assumption), at_map (by assumption), ?_⟩ | (change vcFun _ _ _ _ _; refine call_eq rfl (by repeat' (first | trivial | refine And.intro ?_ ?_ | (show 0 + _ ≤ List.length _; simp))) ALeL.refl (hcq) rfl ?_) | fail)
    all_goals first
      | exact ⟨i + 1, hlt, by omega, back [0, 1] rfl rfl ⟨rfl, rfl, trivial⟩ (by repeat' (first | exact trivial | exact rfl | refine And.intro ?_ ?_))⟩
      | (exfalso; simp_all; done)
  repeat' (first | refine o1 ?_ | refine o2 ?_ | refine k1 ?_ | refine k2 ?_ | refine k3 ?_ | refine k4 ?_ | refine k8 ?_ | refine And.intro ?_ ?_ | (intro h; first | exact Bool.noConfusion h | exact nz _ h | exact nl h | (simp at h; done) | (simp at h; first | (exfalso; omega) | skip) | skip) | refine eqv_len_map ?_ | fail)
  refine loop_in (fun i : Nat => [(9, vint .i64 i)]) (fun _ => [some ⟨47, 4, false, .box (pvs (Model.cells ⟨C, P2, [], n2⟩))⟩, some ⟨47, 4, false, .box (pvs (Model.cells ⟨C, P2, [], n2⟩))⟩]) (fun i => i = 0) (fun i => 0) 0 rfl ⟨?_, ?_⟩
  · exact back [0, 1] rfl rfl ⟨rfl, rfl, trivial⟩ (by repeat' (first | exact trivial | exact rfl | refine And.intro ?_ ?_))
  rintro i rfl
  repeat' (first | refine o1 ?_ | refine o2 ?_ | refine k1 ?_ | refine k2 ?_ | refine k3 ?_ | refine k7 ?_ | refine k8 ?_ | refine And.intro ?_ ?_ | (intro h; first | exact Bool.noConfusion h | exact nz _ h | exact nl h | (simp at h; done) | (simp at h; first | (exfalso; omega) | skip) | skip) | (change retOk _ _ _ _; refine ret_pure rfl trivial ?_) | refine eqv_len_map ?_ | fail)
  rfl
end Go.Proofs.YtmaambipopgdkaaGreat.Cw

/-
  Contracts: what two options cost.
-/
namespace Go.Proofs.YtmaambipopgdkaaGreat.Cw
open Go.Cw Go.Proofs
set_option linter.unusedVariables false
set_option maxRecDepth 100000
set_option maxHeartbeats 4000000

def forbI (b : Bool) : Int := if b then 1099511627776 else 0
theorem c_forbidden (b : Bool) : PCall Tryz.prog 137 [vbool b] (fun a => a = vint .i64 (forbI b)) := by
  refine acall_of tok mixed 4 rfl (fn := Tryz.f137) (c := Tryz.f137.body.getD .skip) (by kernel_rfl) (by kernel_rfl) (by kernel_rfl) rfl 0 rfl ?_
  cases b
  all_goals
    repeat' (first | refine o1 ?_ | refine o2 ?_ | refine k1 ?_ | refine k2 ?_ | refine k3 ?_ | refine k6 ?_ | refine k7 ?_ | refine And.intro ?_ ?_ | (intro h; first | exact Bool.noConfusion h | exact nz _ h | exact nl h | (simp at h; done) | (simp at h; first | (exfalso; omega) | skip) | skip) | (change retOk _ _ _ _; refine ret_pure rfl trivial ?_) | fail)
    rfl
/-- Two options need the same room at a common time. -/
def roomP (a b : Placed) : Prop := a.room ≠ -1 ∧ a.room = b.room ∧ ovP a.time b.time
theorem c_b2 (i k : Int) (a b : Placed) : PCall Tryz.prog 136 [vint .i64 i, vint .i64 k, ag a.row, ag b.row] (fun r => r = vint .i64 (forbI (pB (roomP a b)))) := by
  refine acall_of tok mixed 27 rfl (fn := Tryz.f136) (c := Tryz.f136.body.getD .skip) (by kernel_rfl) (by kernel_rfl) (by kernel_rfl) rfl 0 rfl ?_
  repeat' (first | refine o1 ?_ | refine o2 ?_ | refine k1 ?_ | refine k2 ?_ | refine k7 ?_ | refine And.intro ?_ ?_ | (intro h; first | exact Bool.noConfusion h | exact nz _ h | exact nl h | (simp at h; done) | (simp at h; first | (exfalso; omega) | skip) | skip) | (change retOk _ _ _ _; refine ret_pure rfl trivial ?_) | (change vcFun _ _ _ _ _; refine call_eq rfl (by repeat' (first | trivial | refine And.intro ?_ ?_ | (show 0 + _ ≤ List.length _; simp))) ALeL.refl (c_overlap a.time b.time) rfl ?_) | (change vcFun _ _ _ _ _; refine call_eq rfl (by repeat' (first | trivial | refine And.intro ?_ ?_ | (show 0 + _ ≤ List.length _; simp))) ALeL.refl (c_forbidden _) rfl ?_) | fail)
  all_goals refine congrArg (vint .i64) (congrArg forbI ?_)
  · have e : ovP a.time b.time ↔ roomP a b := ⟨fun h => ⟨by assumption, by assumption, h⟩, fun h => h.2.2⟩
    exact pB_eq (by simpa using e)
  · exact (pB_f (show ¬ roomP a b from fun h => (by assumption : ¬ a.room = b.room) h.2.1)).symm
  · exact (pB_f (show ¬ roomP a b from fun h => h.1 (by assumption))).symm
theorem shared_any {x y : Class} : (x.staff.any fun s => memS y.staff s) = pB (sharedP x y) := pB_eq (by
  rw [List.any_eq_true]
  exact ⟨fun ⟨s, h1, h2⟩ => ⟨s, h1, memS_t h2⟩, fun ⟨s, h1, h2⟩ => ⟨s, h1, pB_t h2⟩⟩)
theorem c_b11 (r : Reg) (k : Nat) (y : Class) (s : Str) (hy : r.classes[k]? = some y) (hl : y.staff.length ≤ 100000) : PCall Tryz.prog 133 [.pv (es s), .pv (.ia r.cells), .pv (.ia [ei k])] (fun a => a = vbool (memS y.staff s)) := by
  have hcm : PCall Tryz.prog 134 [.pv (encStrs y.staff), .pv (es s)] (fun a => a = vbool (memS y.staff s)) := c_contains y.staff s hl
  refine acall_of tok mixed 13 rfl (fn := Tryz.f133) (c := Tryz.f133.body.getD .skip) (by kernel_rfl) (by kernel_rfl) (by kernel_rfl) rfl 0 rfl ?_
  repeat' (first | refine o1 ?_ | refine o2 ?_ | refine k1 ?_ | refine k2 ?_ | refine k7 ?_ | (change retOk _ _ _ _; refine ret_pure rfl trivial ?_) | refine ⟨_, _, (by first | rfl | assumption), at_map (by assumption), ?_⟩ | (change vcFun _ _ _ _ _; refine call_eq rfl (by repeat' (first | trivial | refine And.intro ?_ ?_ | (show 0 + _ ≤ List.length _; simp))) ALeL.refl (hcm) rfl ?_) | fail)
  all_goals first
    | rfl
end Go.Proofs.YtmaambipopgdkaaGreat.Cw

/-
  Contracts: common members of staff (closure).
-/
namespace Go.Proofs.YtmaambipopgdkaaGreat.Cw
open Go.Cw Go.Proofs
set_option linter.unusedVariables false
set_option maxRecDepth 100000
set_option maxHeartbeats 4000000

theorem c_b1 (r : Reg) (i k : Nat) (x y : Class) (hx : r.classes[i]? = some x) (hy : r.classes[k]? = some y) (hn : r.classes.length ≤ 100000) (hlx : x.staff.length ≤ 100000) (hly : y.staff.length ≤ 100000) : PCall Tryz.prog 131 [vint .i64 i, vint .i64 k, .pv (.ia r.cells)] (fun a => a = vbool (pB (sharedP x y))) := by
  rw [← shared_any]
  refine acall_of tok mixed 14 rfl (fn := Tryz.f131) (c := Tryz.f131.body.getD .skip) (by kernel_rfl) (by kernel_rfl) (by kernel_rfl) rfl 0 rfl ?_
  repeat' (first | refine o1 ?_ | refine o2 ?_ | refine k1 ?_ | refine k2 ?_ | refine k7 ?_ | (change retOk _ _ _ _; refine ret_pure rfl trivial ?_) | refine ⟨_, _, (by first | rfl | assumption), at_map (by assumption), ?_⟩ | (change vcFun _ _ _ _ _; refine call_eq rfl (by repeat' (first | trivial | refine And.intro ?_ ?_ | (show 0 + _ ≤ List.length _; simp))) ALeL.refl (c_any_str x.staff 133 [.ia r.cells, .ia [ei k]] (fun s => memS y.staff s) hlx (fun s _ => c_b11 r k y s hy hly)) rfl ?_) | fail)
  all_goals first
    | rfl
end Go.Proofs.YtmaambipopgdkaaGreat.Cw

/-
  Contracts: what two options cost whose classes have common staff.
-/
namespace Go.Proofs.YtmaambipopgdkaaGreat.Cw
open Go.Cw Go.Proofs
set_option linter.unusedVariables false
set_option maxRecDepth 100000
set_option maxHeartbeats 4000000

def staffP (x y : Class) (a b : Placed) : Prop := sharedP x y ∧ ovP a.time b.time
theorem c_b3 (r : Reg) (i k : Nat) (x y : Class) (a b : Placed) (hx : r.classes[i]? = some x) (hy : r.classes[k]? = some y) (hn : r.classes.length ≤ 100000) (hlx : x.staff.length ≤ 100000) (hly : y.staff.length ≤ 100000) : PCall Tryz.prog 139 [vint .i64 i, vint .i64 k, ag a.row, ag b.row, .pv (.ia [.fn 131 [.ia r.cells]])] (fun v => v = vint .i64 (forbI (pB (staffP x y a b)))) := by
  refine acall_of tok mixed 22 rfl (fn := Tryz.f139) (c := Tryz.f139.body.getD .skip) (by kernel_rfl) (by kernel_rfl) (by kernel_rfl) rfl 0 rfl ?_
  repeat' (first | refine o1 ?_ | refine o2 ?_ | refine k1 ?_ | refine k2 ?_ | refine k7 ?_ | refine And.intro ?_ ?_ | (intro h; first | exact Bool.noConfusion h | exact nz _ h | exact nl h | (simp at h; done) | (simp at h; first | (exfalso; omega) | skip) | skip) | (change retOk _ _ _ _; refine ret_pure rfl trivial ?_) | (change vcFun _ _ (_ ++ pvs _) _ _; refine call_cap rfl (by repeat' (first | trivial | refine And.intro ?_ ?_ | (show 0 + _ ≤ List.length _; simp))) (c_b1 r i k x y hx hy hn hlx hly) rfl ?_) | (change vcFun _ _ _ _ _; refine call_eq rfl (by repeat' (first | trivial | refine And.intro ?_ ?_ | (show 0 + _ ≤ List.length _; simp))) ALeL.refl (c_overlap a.time b.time) rfl ?_) | (change vcFun _ _ _ _ _; refine call_eq rfl (by repeat' (first | trivial | refine And.intro ?_ ?_ | (show 0 + _ ≤ List.length _; simp))) ALeL.refl (c_forbidden _) rfl ?_) | fail)
  all_goals refine congrArg (vint .i64) (congrArg forbI ?_)
  · have e : ovP a.time b.time ↔ staffP x y a b := ⟨fun h => ⟨by assumption, h⟩, fun h => h.2⟩
    exact pB_eq (by simpa using e)
  · exact (pB_f (show ¬ staffP x y a b from fun h => (by assumption : ¬ sharedP x y) h.1)).symm
end Go.Proofs.YtmaambipopgdkaaGreat.Cw

/-
  Contracts: the options of all classes.
-/
namespace Go.Proofs.YtmaambipopgdkaaGreat.Cw
open Go.Cw Go.Proofs
set_option linter.unusedVariables false
set_option maxRecDepth 100000
set_option maxHeartbeats 8000000

/-- An option as it is built: nil charges. -/
def optN (p : Placed) : List PV := [ei p.time.weeks, ei p.time.day, ei p.time.start, ei p.time.len, ei p.room, .val (.slice none 0 0)]
def optsN (l : List Placed) : List PV := [.sl 6 (l.map optN)]
noncomputable def optE (r : Reg) (i : Nat) : Int := match r.classes[i]? with
  | some c => optsE r c
  | none => 0
noncomputable def buildE (r : Reg) : Int := firstE (optE r) r.classes.length
noncomputable def buildC (r : Reg) : List (List Placed) := if buildE r = 0 then r.classes.map (optsV r) else []
noncomputable def clsRow (r : Reg) (c : Class) : List PV := optsN (optsV r c)
noncomputable def clsRows (r : Reg) (i : Nat) : List (List PV) := (r.classes.take i).map (clsRow r)
theorem clsRows_zero {r : Reg} : clsRows r 0 = [] := rfl
theorem clsRows_succ {r : Reg} {i : Nat} {c : Class} (h : r.classes[i]? = some c) : clsRows r (i + 1) = clsRows r i ++ [clsRow r c] := by
  unfold clsRows; rw [take_snoc h, map_snoc]
theorem clsRows_len {r : Reg} {i : Nat} : (clsRows r i).length ≤ i := by unfold clsRows; rw [List.length_map]; exact List.length_take_le ..
theorem optE_at {r : Reg} {i : Nat} {c : Class} (h : r.classes[i]? = some c) : optE r i = optsE r c := by unfold optE; rw [h]
theorem optsV_len {r : Reg} {c : Class} : (optsV r c).length ≤ 24 := by
  unfold optsV; split
  · simp
  · omega
attribute [local irreducible] optsV optsE
theorem build_bad {r : Reg} {i : Nat} {c : Class} (h0 : ∀ j, j < i → optE r j = 0) (hc : r.classes[i]? = some c) (h : ¬ optsE r c = 0) : buildE r = optsE r c ∧ buildC r = [] := by
  have hi := (List.getElem?_eq_some_iff.1 hc).1
  have e : buildE r = optsE r c := by
    unfold buildE
    rw [firstE_at h0 (by rw [optE_at hc]; exact h) hi, optE_at hc]
  exact ⟨e, by unfold buildC; rw [if_neg (by rw [e]; exact h)]⟩
theorem build_ok {r : Reg} (h0 : ∀ j, j < r.classes.length → optE r j = 0) : buildE r = 0 ∧ buildC r = r.classes.map (optsV r) := by
  have e : buildE r = 0 := firstE_zero h0
  exact ⟨e, by unfold buildC; rw [if_pos e]⟩
theorem le_optN {l : List Placed} : PLeLL (l.map optN) ((l.map plainOpt).map Opt.row) := by
  rw [List.map_map]
  exact PLeLL.map fun p _ => ⟨PLe.refl, PLe.refl, PLe.refl, PLe.refl, PLe.refl, PLe.nil, trivial⟩
theorem le_cls {C : List (List Placed)} : PLeLL (C.map optsN) ((C.map fun l => l.map plainOpt).map optsRow) := by
  rw [List.map_map]
  exact PLeLL.map fun l _ => ⟨PLe.sl le_optN, trivial⟩
theorem clsRows_all {r : Reg} : clsRows r r.classes.length = (r.classes.map (optsV r)).map optsN := by
  unfold clsRows; rw [List.take_length, List.map_map]; rfl
theorem ren_bx0 {d : Nat} {rn : List Nat} {id z : Nat} {rows : List (List PV)} {cs : List AV} : renL d rn (slP id z rows :: cs) = slP (rn.getD id d) z rows :: renL d rn cs := by simp [renL, ren_sl]
theorem ren_bx1 {d : Nat} {rn : List Nat} {id z : Nat} {rows : List (List PV)} {a b c : PV} : renL d rn [.pv a, slP id z rows, .pv b, .pv c] = [.pv a, slP (rn.getD id d) z rows, .pv b, .pv c] := by simp [renL, ren_sl, renC]
theorem ren_bx3 {d : Nat} {rn : List Nat} {id z : Nat} {rows : List (List PV)} {a b c : PV} : renL d rn [.pv a, .pv b, .pv c, slP id z rows] = [.pv a, .pv b, .pv c, slP (rn.getD id d) z rows] := by simp [renL, ren_sl, renC]
def zeroM : List PV := [.val (.slice none 0 0), .val (.slice none 0 0), .val (.slice none 0 0), ei 0]
theorem le_zeroM : ALeL (pvs zeroM) (pvs (builtM [] [] 0).cells) := ⟨ALe.pv PLe.nil, ALe.pv PLe.nil, ALe.pv PLe.nil, ALe.refl, trivial⟩
theorem c_clsM0 (r : Reg) (h0 : regE r = 0) : PCall Tryz.prog 45 [ag r.cells] (fun a => Leq a (.tup [ag (builtM (buildC r) [] 0).cells, vint .i64 (buildE r)])) := by
  have hlen := (optLens h0).classes
  refine acall_of tok mixed 49 rfl (fn := Tryz.f45) (c := Tryz.f45.body.getD .skip) (by kernel_rfl) (by kernel_rfl) (by kernel_rfl) rfl 0 rfl ?_
  repeat' (first | refine o1 ?_ | refine o2 ?_ | refine k1 ?_ | refine k2 ?_ | refine k4 ?_ | refine And.intro ?_ ?_ | exact (by kernel_rfl : drawOk _ _ = true) | refine eqv_len_map ?_ | fail)
  refine loop_for (fun i : Nat => [(1, .ptr 0 14 0 0), (2, .ptr 1 4 0 0), (3, vint .i64 0), (4, .ptr 2 4 0 0), (13, .pv (.sl 9 (r.classes.map Class.row))), (14, vint .i64 r.classes.length), (15, vint .i64 i)])
    (fun i => [some ⟨37, 14, false, .box (pvs r.cells)⟩, some ⟨47, 4, false, .box (pvs zeroM)⟩, some ⟨47, 4, false, .box [slP 3 1 (clsRows r i), nilA, nilA, vint .i64 0]⟩, obP 99 1 (clsRows r i)])
    (fun i => i ≤ r.classes.length ∧ ∀ j, j < i → optE r j = 0) (fun i => r.classes.length - i) 0 ⟨Nat.zero_le _, fun j hj => by omega⟩ ?_ ?_
  · exact back [0, 1, 2, 3] rfl rfl (by repeat' (first | exact trivial | exact rfl | refine kept_bx ren_bx0 rfl ?_ | refine And.intro ?_ ?_)) (by repeat' (first | exact trivial | exact rfl | refine And.intro ?_ ?_))
  intro i ⟨hi, hall⟩
  have hrl := clsRows_len (r := r) (i := i)
  rcases Nat.lt_or_ge i r.classes.length with hlt | hge
  · obtain ⟨c, hc⟩ := getE hlt
    have hok := optOk h0 (List.mem_of_getElem? hc)
    have hvl := optsV_len (r := r) (c := c)
    repeat' (first | (refine fh_ob ?_) | ((change vcFun _ _ _ _ _; refine call_frz rfl (by repeat' (first | trivial | refine And.intro ?_ ?_ | (show 0 + _ ≤ List.length _; simp))) ALeL.refl (c_options r c hok) ?_; rintro _ rfl)) | refine o1 ?_ | refine o2 ?_ | refine k1 ?_ | refine k2 ?_ | refine k3 ?_ | refine k4 ?_ | refine k6 ?_ | refine k7 ?_ | refine And.intro ?_ ?_ | (intro h; first | exact Bool.noConfusion h | exact nz _ h | exact nl h | (simp at h; done) | (simp at h; first | (exfalso; omega) | skip) | skip) | exact (by kernel_rfl : drawOk _ _ = true) | refine eqv_len_map ?_ | refine ⟨_, _, (by first | rfl | assumption), at_map (by assumption), ?_⟩ | fail)
    · obtain ⟨e1, e2⟩ := build_bad hall hc (by assumption)
      rw [e1, e2]
      change retOk _ _ _ _
      exact ret_pure rfl (by repeat' (first | exact True.intro | refine And.intro ?_ ?_)) ⟨ALe.tup ⟨ALe.agg le_zeroM, ALe.refl, trivial⟩⟩
    have hz : optsE r c = 0 := by assumption
    refine loop_for (fun k : Nat => [(1, .ptr 0 14 0 0), (2, .ptr 1 4 0 0), (3, vint .i64 0), (4, .ptr 2 4 0 0), (13, .pv (.sl 9 (r.classes.map Class.row))), (14, vint .i64 r.classes.length), (15, vint .i64 i), (9, slP 4 6 (((optsV r c).take k).map optN)), (29, .pv (.sl 5 ((optsV r c).map Placed.row))), (30, vint .i64 (optsV r c).length), (31, vint .i64 k)])
      (fun k => [some ⟨37, 14, false, .box (pvs r.cells)⟩, some ⟨47, 4, false, .box (pvs zeroM)⟩, some ⟨47, 4, false, .box [slP 3 1 (clsRows r i), nilA, nilA, vint .i64 0]⟩, obP 99 1 (clsRows r i), obP 106 6 (((optsV r c).take k).map optN)]) (fun k => k ≤ (optsV r c).length) (fun k => (optsV r c).length - k) 0 (Nat.zero_le _) ?_ ?_
    · exact back [0, 1, 2, 3, 4] rfl rfl (by repeat' (first | exact trivial | exact rfl | refine kept_ob rfl ?_ | refine kept_bx ren_bx0 rfl ?_ | refine And.intro ?_ ?_)) (by repeat' (first | exact trivial | exact rfl | refine And.intro ?_ ?_))
    intro k hk
    rcases Nat.lt_or_ge k (optsV r c).length with hkl | hkg
    · obtain ⟨p, hp⟩ := getE hkl
      have htk : ((optsV r c).take k).length ≤ 24 := Nat.le_trans (List.length_take_le' ..) hvl
      repeat' (first | (refine fv_sl ?_) | (refine fh_ob ?_) | ((refine o_app rfl rfl rfl rfl rfl rfl rfl rfl rfl rfl rfl (by rw [List.length_map]; omega) (by rw [List.length_map]; omega) ?_)) | refine o1 ?_ | refine o2 ?_ | refine k1 ?_ | refine k2 ?_ | refine k3 ?_ | refine k4 ?_ | refine k6 ?_ | refine And.intro ?_ ?_ | (intro h; first | exact Bool.noConfusion h | exact nz _ h | exact nl h | (simp at h; done) | (simp at h; first | (exfalso; omega) | skip) | skip) | exact (by kernel_rfl : drawOk _ _ = true) | refine eqv_wrap (by omega) (by omega) ?_ | refine ⟨_, _, (by first | rfl | assumption), at_map (by assumption), ?_⟩ | fail)
      refine ⟨k + 1, by omega, by omega, ?_⟩
      rw [take_snoc hp, map_snoc, sl_app, ob_app]
      exact back [0, 1, 2, 3, 7] rfl rfl (by repeat' (first | exact trivial | exact rfl | refine kept_ob rfl ?_ | refine kept_bx ren_bx0 rfl ?_ | refine And.intro ?_ ?_)) (by repeat' (first | exact trivial | exact rfl | refine And.intro ?_ ?_))
    obtain rfl : k = (optsV r c).length := by omega
    refine forceH_in ?_
    rw [List.take_length]
    refine ghost_seq (Γ' := [(1, .ptr 0 14 0 0), (2, .ptr 1 4 0 0), (3, vint .i64 0), (4, .ptr 2 4 0 0), (13, .pv (.sl 9 (r.classes.map Class.row))), (14, vint .i64 r.classes.length), (15, vint .i64 i), (9, .pv (.sl 6 ((optsV r c).map optN))), (30, vint .i64 (optsV r c).length), (31, vint .i64 (optsV r c).length)]) (H' := [some ⟨37, 14, false, .box (pvs r.cells)⟩, some ⟨47, 4, false, .box (pvs zeroM)⟩, some ⟨47, 4, false, .box [slP 3 1 (clsRows r i), nilA, nilA, vint .i64 0]⟩, obP 99 1 (clsRows r i)]) (Ghost.sl (s := 9) (id := 4) rfl rfl fun H' hl hH => back [0, 1, 2, 3] rfl rfl (And.intro (hH 0 (by decide)) (And.intro (hH 1 (by decide)) (kept_bx ren_bx0 (hH 2 (by decide)) (kept_ob (hH 3 (by decide)) trivial)))) (by repeat' (first | exact trivial | exact rfl | refine And.intro ?_ ?_))) ?_
    repeat' (first | (refine fv_sl ?_) | (refine fh_ob ?_) | ((refine o_app rfl rfl rfl rfl rfl rfl rfl rfl rfl rfl rfl (by omega) (by omega) ?_)) | refine o1 ?_ | refine o2 ?_ | refine k1 ?_ | refine k2 ?_ | refine k3 ?_ | refine k8 ?_ | refine And.intro ?_ ?_ | (intro h; first | exact Bool.noConfusion h | exact nz _ h | exact nl h | (simp at h; done) | (simp at h; first | (exfalso; omega) | skip) | skip) | refine eqv_wrap (by omega) (by omega) ?_ | fail)
    refine ⟨i + 1, ⟨by omega, all_lt_succ hall (by rw [optE_at hc]; exact hz)⟩, by omega, ?_⟩
    rw [clsRows_succ hc, sl_app, ob_app]
    exact back [0, 1, 2, 5] rfl rfl (by repeat' (first | exact trivial | exact rfl | refine And.intro ?_ ?_)) (by repeat' (first | exact trivial | exact rfl | refine And.intro ?_ ?_))
  obtain rfl : i = r.classes.length := by omega
  obtain ⟨e1, e2⟩ := build_ok hall
  rw [e1, e2]
  refine forceH_in ?_
  rw [clsRows_all]
  refine ghost_seq (Γ' := [(1, .ptr 0 14 0 0), (2, .ptr 1 4 0 0), (3, vint .i64 0), (4, .ptr 2 4 0 0), (14, vint .i64 r.classes.length), (15, vint .i64 r.classes.length)]) (H' := [some ⟨37, 14, false, .box (pvs r.cells)⟩, some ⟨47, 4, false, .box (pvs zeroM)⟩, some ⟨47, 4, false, .box [.pv (.sl 1 ((r.classes.map (optsV r)).map optsN)), nilA, nilA, vint .i64 0]⟩]) (Ghost.shut_sl (i := 2) (c := 0) (id := 3) rfl rfl rfl (by decide) fun H' hl h2 hH => back [0, 1, 2] rfl rfl (And.intro (hH 0 (by decide) (by decide)) (And.intro (hH 1 (by decide) (by decide)) (And.intro h2 trivial))) (by repeat' (first | exact trivial | exact rfl | refine And.intro ?_ ?_))) ?_
  repeat' (first | refine o1 ?_ | refine o2 ?_ | refine k1 ?_ | refine k2 ?_ | refine k3 ?_ | refine k7 ?_ | refine k8 ?_ | refine And.intro ?_ ?_ | (intro h; first | exact Bool.noConfusion h | exact nz _ h | exact nl h | (simp at h; done) | (simp at h; first | (exfalso; omega) | skip) | skip) | fail)
  change retOk _ _ _ _
  exact ret_pure rfl (by repeat' (first | exact True.intro | refine And.intro ?_ ?_)) ⟨ALe.tup ⟨ALe.agg ⟨ALe.pv (PLe.sl le_cls), ALe.pv PLe.nil, ALe.pv PLe.nil, ALe.refl, trivial⟩, ALe.refl, trivial⟩⟩
theorem c_clsM (r : Reg) (h0 : regE r = 0) : PCall Tryz.prog 45 [ag r.cells] (fun a => a = .tup [ag (builtM (buildC r) [] 0).cells, vint .i64 (buildE r)]) :=
  (c_clsM0 r h0).weak fun r h => ⟨_, h.le, rfl⟩
end Go.Proofs.YtmaambipopgdkaaGreat.Cw

/-
  Contracts: pairs of classes under a rule.
-/
namespace Go.Proofs.YtmaambipopgdkaaGreat.Cw
open Go.Cw Go.Proofs
set_option linter.unusedVariables false
set_option maxRecDepth 100000
set_option maxHeartbeats 8000000

theorem flat_pvs {H : Heap} : ∀ l : List PV, (pvs l).flatMap (rds1 H) = []
  | [] => rfl
  | p :: l => by rw [pvs, List.flatMap_cons, flat_pvs l]; rfl
/-- A call of a function with what it holds, in a statement that draws its order. -/
theorem callD_cap {P : Program} {H : Heap} {K : AV → Upd → List Nat → Prop} {f : FuncId} {args as0 : List AV} {caps : List PV} {v : AV} (hc : mapO (conv H) args = some as0) (hok : andL (ok1 H) args) (hp : PCall P f (as0 ++ pvs caps) (fun r => r = v)) (hv : scal v = true) (hK : K v [] (args.flatMap (rds1 H))) :
    vcFunD P f (args ++ pvs caps) H K :=
  callD_eq (mapO_app hc (mapO_pvs H caps)) (andL_app (fun p => ok1_pv p) hok (andL_pvs caps)) ALeL.refl hp (by rw [hv]; rfl) (by rw [List.flatMap_append, flat_pvs, List.append_nil]; exact hK)
def rowV (ent : Nat → Nat → Placed → Placed → Int) (i k : Nat) (x y : List Opt) (a : Nat) : List Int := match x[a]? with
  | some o => y.map fun q => ent i k o.place q.place
  | none => []
def tabV (ent : Nat → Nat → Placed → Placed → Int) (i k : Nat) (x y : List Opt) : List Int := gr (rowV ent i k x y) x.length
def pairO (M : Model) (rule : Int) (ent : Nat → Nat → Placed → Placed → Int) (i k : Nat) : Option Pair := match M.classes[i]?, M.classes[k]? with
  | some x, some y => if i < k ∧ (tabV ent i k x y).any (fun n => n != 0) = true then some ⟨i, k, rule, tabV ent i k x y⟩ else none
  | _, _ => none
def prsI (M : Model) (rule : Int) (ent : Nat → Nat → Placed → Placed → Int) (i m : Nat) : List Pair := (List.range m).filterMap (pairO M rule ent i)
def pairsV (M : Model) (rule : Int) (ent : Nat → Nat → Placed → Placed → Int) : List Pair := gr (fun i => prsI M rule ent i M.classes.length) M.classes.length
theorem prsI_len {M : Model} {rule : Int} {ent : Nat → Nat → Placed → Placed → Int} {i m : Nat} : (prsI M rule ent i m).length ≤ m := by
  unfold prsI; exact Nat.le_trans (List.length_filterMap_le ..) (by simp)
theorem prsI_succ {M : Model} {rule : Int} {ent : Nat → Nat → Placed → Placed → Int} {i m : Nat} : prsI M rule ent i (m + 1) = prsI M rule ent i m ++ (pairO M rule ent i m).toList := by
  unfold prsI; rw [List.range_succ, List.filterMap_append]
  cases h : pairO M rule ent i m <;> simp [h]
theorem prsI_none {M : Model} {rule : Int} {ent : Nat → Nat → Placed → Placed → Int} {i m : Nat} (h : pairO M rule ent i m = none) : prsI M rule ent i (m + 1) = prsI M rule ent i m := by rw [prsI_succ, h]; simp
theorem prsI_some {M : Model} {rule : Int} {ent : Nat → Nat → Placed → Placed → Int} {i m : Nat} {p : Pair} (h : pairO M rule ent i m = some p) : prsI M rule ent i (m + 1) = prsI M rule ent i m ++ [p] := by rw [prsI_succ, h]; simp
theorem prsI_begin {M : Model} {rule : Int} {ent : Nat → Nat → Placed → Placed → Int} {i : Nat} : ∀ {m : Nat}, m ≤ i + 1 → prsI M rule ent i m = []
  | 0, _ => rfl
  | m + 1, h => by
    have e : pairO M rule ent i m = none := by
      unfold pairO
      split
      · exact if_neg (by omega)
      · rfl
    rw [prsI_none e, prsI_begin (by omega)]
theorem rowV_at {ent : Nat → Nat → Placed → Placed → Int} {i k : Nat} {x y : List Opt} {a : Nat} {o : Opt} (h : x[a]? = some o) : rowV ent i k x y a = y.map fun q => ent i k o.place q.place := by unfold rowV; rw [h]
theorem rowV_len {ent : Nat → Nat → Placed → Placed → Int} {i k : Nat} {x y : List Opt} {a : Nat} : (rowV ent i k x y a).length ≤ y.length := by
  unfold rowV; split
  · rw [List.length_map]; exact Nat.le_refl _
  · exact Nat.zero_le _
theorem rowV_get {ent : Nat → Nat → Placed → Placed → Int} {i k : Nat} {x y : List Opt} {a b : Nat} {o q : Opt} (h : x[a]? = some o) (hq : y[b]? = some q) : (rowV ent i k x y a)[b]? = some (ent i k o.place q.place) := by
  rw [rowV_at h, List.getElem?_map, hq]; rfl
theorem c_pairs1 (n : Int) : PCall Tryz.prog 224 [vint .i64 n] (fun r => r = vbool (n != 0)) := by
  refine acall_of tok mixed 5 rfl (fn := Tryz.f224) (c := Tryz.f224.body.getD .skip) (by kernel_rfl) (by kernel_rfl) (by kernel_rfl) rfl 0 rfl ?_
  repeat' (first | refine o1 ?_ | refine o2 ?_ | refine k1 ?_ | refine k2 ?_ | refine k7 ?_ | (change retOk _ _ _ _; refine ret_pure rfl trivial ?_) | fail)
  rfl
theorem c_index_int (l : List Int) (f : FuncId) (caps : List PV) (p : Int → Bool) (hl : l.length ≤ 100000) (hf : ∀ x ∈ l, PCall Tryz.prog f (vint .i64 x :: pvs caps) (fun r => r = vbool (p x))) :
    PCall Tryz.prog 280 [.pv (.sl 1 (l.map (fun n => [ei n]))), .pv (.fn f caps)] (fun r => r = vint .i64 (idxB p l)) := by
  refine acall_of tok mixed 19 rfl (fn := Tryz.f280) (c := Tryz.f280.body.getD .skip) (by kernel_rfl) (by kernel_rfl) (by kernel_rfl) rfl 0 rfl ?_
  repeat' (first | refine o1 ?_ | refine o2 ?_ | refine k1 ?_ | refine k2 ?_ | refine k4 ?_ | refine eqv_len_map ?_ | fail)
  refine loop_at (fun i : Nat => [(8, vint .i64 i)]) (fun _ => []) (fun i => i ≤ l.length ∧ ∀ j, j < i → ∀ y, l[j]? = some y → p y = false) (fun i => l.length - i) 0 ⟨by omega, fun j hj => by omega⟩ (by repeat' (first | exact trivial | exact ⟨_, rfl, ALe.refl⟩ | refine And.intro ?_ ?_)) (by repeat' (first | exact trivial)) ?_
  intro i ⟨hi, hall⟩
  rcases Nat.lt_or_ge i l.length with hlt | hge
  · obtain ⟨x, hx⟩ := getE hlt
    have hm := List.mem_of_getElem? hx
    repeat' (first | refine o1 ?_ | refine o2 ?_ | refine k1 ?_ | refine k2 ?_ | refine k3 ?_ | refine k4 ?_ | refine k6 ?_ | refine k7 ?_ | refine And.intro ?_ ?_ | (intro h; first | exact Bool.noConfusion h | exact nz _ h | exact nl h | (simp at h; done) | (simp at h; first | (exfalso; omega) | skip) | skip) | (change retOk _ _ _ _; refine ret_pure rfl trivial ?_) | refine eqv_wrap (by omega) (by omega) ?_ | refine ⟨_, _, (by first | rfl | assumption), at_map (by assumption), ?_⟩ | (change vcFun _ _ (_ ++ pvs _) _ _; refine call_cap rfl (by repeat' (first | trivial | refine And.intro ?_ ?_ | (show 0 + _ ≤ List.length _; simp))) (hf x hm) rfl ?_) | fail)
    all_goals first
      | exact ⟨i + 1, ⟨by omega, all_lt_succ hall fun y hy => by rw [hx] at hy; cases hy; assumption⟩, by omega, back [] rfl rfl trivial (by repeat' (first | exact trivial | exact rfl | refine And.intro ?_ ?_))⟩
      | exact congrArg (vint .i64) (idxB_at hall hx (by assumption)).symm
  · repeat' (first | refine o1 ?_ | refine o2 ?_ | refine k1 ?_ | refine k2 ?_ | refine k3 ?_ | refine k7 ?_ | refine k8 ?_ | refine And.intro ?_ ?_ | (intro h; first | exact Bool.noConfusion h | exact nz _ h | exact nl h | (simp at h; done) | (simp at h; first | (exfalso; omega) | skip) | skip) | (change retOk _ _ _ _; refine ret_pure rfl trivial ?_) | fail)
    exact congrArg (vint .i64) (idxB_none fun j hj => hall j (by omega)).symm

theorem c_any_int (l : List Int) (f : FuncId) (caps : List PV) (p : Int → Bool) (hl : l.length ≤ 100000) (hf : ∀ x ∈ l, PCall Tryz.prog f (vint .i64 x :: pvs caps) (fun r => r = vbool (p x))) :
    PCall Tryz.prog 223 [.pv (.sl 1 (l.map (fun n => [ei n]))), .pv (.fn f caps)] (fun r => r = vbool (l.any p)) := by
  refine acall_of tok mixed 9 rfl (fn := Tryz.f223) (c := Tryz.f223.body.getD .skip) (by kernel_rfl) (by kernel_rfl) (by kernel_rfl) rfl 0 rfl ?_
  repeat' (first | refine o1 ?_ | refine o2 ?_ | refine k1 ?_ | refine k2 ?_ | refine k7 ?_ | (change retOk _ _ _ _; refine ret_pure rfl trivial ?_) | (change vcFun _ _ _ _ _; refine call_eq rfl (by repeat' (first | trivial | refine And.intro ?_ ?_ | (show 0 + _ ≤ List.length _; simp))) ALeL.refl (c_index_int l f caps p hl hf) rfl ?_) | fail)
  exact congrArg vbool idxB_any
structure PairsOk (M : Model) : Prop where
  cls : M.classes.length ≤ 100
  opt : ∀ l ∈ M.classes, l.length ≤ 24
theorem c_pairs0 (M : Model) (rule : Int) (f : FuncId) (caps : List PV) (ent : Nat → Nat → Placed → Placed → Int) (hM : PairsOk M)
    (hf : ∀ i k x y, M.classes[i]? = some x → M.classes[k]? = some y → ∀ a ∈ x, ∀ b ∈ y, PCall Tryz.prog f (vint .i64 (i : Nat) :: vint .i64 (k : Nat) :: ag a.place.row :: ag b.place.row :: pvs caps) (fun r => r = vint .i64 (ent i k a.place b.place))) :
    ∀ Post : AV → Heap → Prop, (∀ H : Heap, H[1]? = some (obP 101 4 ((pairsV M rule ent).map Pair.row)) → retOk 0 (slP 1 4 ((pairsV M rule ent).map Pair.row)) H Post) → ACall Tryz.prog 135 [ag M.cells, vint .i64 rule, .pv (.fn f caps)] [] Post := by
  intro Post hPost
  obtain ⟨hcl, hop⟩ := hM
  refine acall_of tok mixed 77 rfl (fn := Tryz.f135) (c := Tryz.f135.body.getD .skip) (by kernel_rfl) (by kernel_rfl) (by kernel_rfl) rfl 0 rfl ?_
  repeat' (first | refine o1 ?_ | refine o2 ?_ | refine k1 ?_ | refine k2 ?_ | refine k4 ?_ | refine eqv_len_map ?_ | fail)
  refine loop_for (fun i : Nat => [(1, vint .i64 rule), (2, .pv (.fn f caps)), (3, .ptr 0 4 0 0), (7, slP 1 4 ((gr (fun i => prsI M rule ent i M.classes.length) i).map Pair.row)), (17, .pv (.sl 1 (M.classes.map optsRow))), (18, vint .i64 M.classes.length), (19, vint .i64 i)])
    (fun i => [some ⟨47, 4, false, .box (pvs M.cells)⟩, obP 101 4 ((gr (fun i => prsI M rule ent i M.classes.length) i).map Pair.row)])
    (fun i => i ≤ M.classes.length) (fun i => M.classes.length - i) 0 (Nat.zero_le _) ?_ ?_
  · exact back [0, 1] rfl rfl (by repeat' (first | exact trivial | exact rfl | refine And.intro ?_ ?_)) (by repeat' (first | exact trivial | exact rfl | refine And.intro ?_ ?_))
  intro i hi
  have hgl := gr_len (F := fun i => prsI M rule ent i M.classes.length) (m := M.classes.length) (fun i => prsI_len) i
  have hgb : i * M.classes.length ≤ 100 * 100 := Nat.mul_le_mul (by omega) hcl
  rcases Nat.lt_or_ge i M.classes.length with hlt | hge
  · obtain ⟨x, hx⟩ := getE hlt
    have hxl := hop x (List.mem_of_getElem? hx)
    repeat' (first | (refine fh_ob ?_) | refine o1 ?_ | refine o2 ?_ | refine k1 ?_ | refine k2 ?_ | refine k3 ?_ | refine k4 ?_ | refine k6 ?_ | refine And.intro ?_ ?_ | (intro h; first | exact Bool.noConfusion h | exact nz _ h | exact nl h | (simp at h; done) | (simp at h; first | (exfalso; omega) | skip) | skip) | refine eqv_wrap (by omega) (by omega) ?_ | refine ⟨_, _, (by first | rfl | assumption), at_map (by assumption), ?_⟩ | fail)
    refine loop_for (fun k : Nat => [(1, vint .i64 rule), (2, .pv (.fn f caps)), (3, .ptr 0 4 0 0), (7, slP 1 4 ((gr (fun i => prsI M rule ent i M.classes.length) i ++ prsI M rule ent i k).map Pair.row)), (8, vint .i64 i), (9, .pv (.sl 6 (x.map Opt.row))), (10, vint .i64 k), (17, .pv (.sl 1 (M.classes.map optsRow))), (18, vint .i64 M.classes.length), (19, vint .i64 i)])
      (fun k => [some ⟨47, 4, false, .box (pvs M.cells)⟩, obP 101 4 ((gr (fun i => prsI M rule ent i M.classes.length) i ++ prsI M rule ent i k).map Pair.row)])
      (fun k => i + 1 ≤ k ∧ k ≤ M.classes.length) (fun k => M.classes.length - k) (i + 1) ⟨Nat.le_refl _, hlt⟩ ?_ ?_
    · rw [prsI_begin (Nat.le_refl _), List.append_nil]
      exact back [0, 1] rfl rfl (by repeat' (first | exact trivial | exact rfl | refine kept_ob rfl ?_ | refine And.intro ?_ ?_)) (by repeat' (first | exact trivial | exact rfl | exact ren_get rfl | refine And.intro ?_ ?_))
    intro k ⟨hk1, hk2⟩
    have hpl := prsI_len (M := M) (rule := rule) (ent := ent) (i := i) (m := k)
    have hol : (gr (fun i => prsI M rule ent i M.classes.length) i ++ prsI M rule ent i k).length ≤ 20000 := by rw [List.length_append]; omega
    rcases Nat.lt_or_ge k M.classes.length with hkl | hkg
    · obtain ⟨y, hy⟩ := getE hkl
      have hyl := hop y (List.mem_of_getElem? hy)
      generalize hOUT : (gr (fun i => prsI M rule ent i M.classes.length) i ++ prsI M rule ent i k) = OUT at *
      repeat' (first | (refine fh_ob ?_) | refine o1 ?_ | refine o2 ?_ | refine k1 ?_ | refine k2 ?_ | refine k3 ?_ | refine k4 ?_ | refine k6 ?_ | refine And.intro ?_ ?_ | (intro h; first | exact Bool.noConfusion h | exact nz _ h | exact nl h | (simp at h; done) | (simp at h; first | (exfalso; omega) | skip) | skip) | exact (by kernel_rfl : drawOk _ _ = true) | refine eqv_len_map ?_ | fail)
      refine loop_for (fun a : Nat => [(1, vint .i64 rule), (2, .pv (.fn f caps)), (3, .ptr 0 4 0 0), (7, slP 1 4 (OUT.map Pair.row)), (8, vint .i64 i), (9, .pv (.sl 6 (x.map Opt.row))), (10, vint .i64 k), (17, .pv (.sl 1 (M.classes.map optsRow))), (18, vint .i64 M.classes.length), (19, vint .i64 i), (11, .ptr 2 4 0 0), (37, .pv (.sl 6 (x.map Opt.row))), (38, vint .i64 x.length), (39, vint .i64 a)])
        (fun a => [some ⟨47, 4, false, .box (pvs M.cells)⟩, obP 101 4 (OUT.map Pair.row), some ⟨101, 4, false, .box [vint .i64 i, vint .i64 k, vint .i64 rule, slP 3 1 ((gr (rowV ent i k x y) a).map fun n => [ei n])]⟩, obP 3 1 ((gr (rowV ent i k x y) a).map fun n => [ei n])]) (fun a => a ≤ x.length) (fun a => x.length - a) 0 (Nat.zero_le _) ?_ ?_
      · exact back [0, 1, 2, 3] rfl rfl (by repeat' (first | exact trivial | exact rfl | refine kept_ob rfl ?_ | refine kept_bx ren_bx3 rfl ?_ | refine And.intro ?_ ?_)) (by repeat' (first | exact trivial | exact rfl | exact ren_get rfl | refine And.intro ?_ ?_))
      intro a ha
      have htl := gr_len (F := rowV ent i k x y) (m := y.length) (fun i => rowV_len) a
      have htb : a * y.length ≤ 24 * 24 := Nat.mul_le_mul (by omega) hyl
      rcases Nat.lt_or_ge a x.length with hal | hag
      · obtain ⟨o, ho⟩ := getE hal
        repeat' (first | (refine fh_ob ?_) | refine o1 ?_ | refine o2 ?_ | refine k1 ?_ | refine k2 ?_ | refine k3 ?_ | refine k4 ?_ | refine k6 ?_ | refine And.intro ?_ ?_ | (intro h; first | exact Bool.noConfusion h | exact nz _ h | exact nl h | (simp at h; done) | (simp at h; first | (exfalso; omega) | skip) | skip) | exact (by kernel_rfl : drawOk _ _ = true) | refine eqv_len_map ?_ | refine ⟨_, _, (by first | rfl | assumption), at_map (by assumption), ?_⟩ | fail)
        refine loop_for (fun b : Nat => [(1, vint .i64 rule), (2, .pv (.fn f caps)), (3, .ptr 0 4 0 0), (7, slP 1 4 (OUT.map Pair.row)), (8, vint .i64 i), (9, .pv (.sl 6 (x.map Opt.row))), (10, vint .i64 k), (17, .pv (.sl 1 (M.classes.map optsRow))), (18, vint .i64 M.classes.length), (19, vint .i64 i), (11, .ptr 2 4 0 0), (13, .ptr 4 6 0 0), (37, .pv (.sl 6 (x.map Opt.row))), (38, vint .i64 x.length), (39, vint .i64 a), (47, .pv (.sl 6 (y.map Opt.row))), (48, vint .i64 y.length), (49, vint .i64 b)])
          (fun b => [some ⟨47, 4, false, .box (pvs M.cells)⟩, obP 101 4 (OUT.map Pair.row), some ⟨101, 4, false, .box [vint .i64 i, vint .i64 k, vint .i64 rule, slP 3 1 ((gr (rowV ent i k x y) a ++ (rowV ent i k x y a).take b).map fun n => [ei n])]⟩, obP 3 1 ((gr (rowV ent i k x y) a ++ (rowV ent i k x y a).take b).map fun n => [ei n]), some ⟨106, 6, false, .box (pvs o.row)⟩]) (fun b => b ≤ y.length) (fun b => y.length - b) 0 (Nat.zero_le _) ?_ ?_
        · rw [gr_none]
          exact back [0, 1, 2, 3, 4] rfl rfl (by repeat' (first | exact trivial | exact rfl | refine kept_ob rfl ?_ | refine kept_bx ren_bx3 rfl ?_ | refine And.intro ?_ ?_)) (by repeat' (first | exact trivial | exact rfl | exact ren_get rfl | refine And.intro ?_ ?_))
        intro b hb
        have hrl := rowV_len (ent := ent) (i := i) (k := k) (x := x) (y := y) (a := a)
        have htk : ((rowV ent i k x y a).take b).length ≤ 24 := Nat.le_trans (List.length_take_le' ..) (by omega)
        have htt : (gr (rowV ent i k x y) a ++ (rowV ent i k x y a).take b).length ≤ 1000 := by rw [List.length_append]; omega
        rcases Nat.lt_or_ge b y.length with hbl | hbg
        · obtain ⟨q, hq⟩ := getE hbl
          have hcall := hf i k x y hx hy o (List.mem_of_getElem? ho) q (List.mem_of_getElem? hq)
          have hnx := gr_next (F := rowV ent i k x y) (rowV_get (ent := ent) (i := i) (k := k) ho hq)
          generalize hT : gr (rowV ent i k x y) a ++ (rowV ent i k x y a).take b = T0 at *
          repeat' (first | (refine fv_sl ?_) | (refine fh_ob ?_) | ((change vcFunD _ _ (_ ++ pvs _) _ _; refine callD_cap rfl (by repeat' (first | trivial | refine And.intro ?_ ?_ | (show 0 + _ ≤ List.length _; simp))) hcall rfl ?_)) | ((refine o_appD rfl rfl rfl rfl rfl rfl rfl rfl rfl rfl rfl (by rw [List.length_map]; omega) (by rw [List.length_map]; omega) ?_)) | refine o1 ?_ | refine o2 ?_ | refine k1 ?_ | refine k2 ?_ | refine k3 ?_ | refine k4 ?_ | refine k6 ?_ | refine And.intro ?_ ?_ | refine o3 ?_ | refine o4 ?_ | (intro h; first | exact Bool.noConfusion h | exact nz _ h | exact nl h | (simp at h; done) | (simp at h; first | (exfalso; omega) | skip) | skip) | exact (by kernel_rfl : drawOk _ _ = true) | refine eqv_wrap (by omega) (by omega) ?_ | refine ⟨_, _, (by first | rfl | assumption), at_map (by assumption), ?_⟩ | fail)
          all_goals
            refine ⟨b + 1, by omega, by omega, ?_⟩
            rw [hnx, map_snoc, sl_app, ob_app]
            exact back [0, 1, 2, 7, 4] rfl rfl (by repeat' (first | exact trivial | exact rfl | refine kept_ob rfl ?_ | refine And.intro ?_ ?_)) (by repeat' (first | exact trivial | exact rfl | exact ren_get rfl | refine And.intro ?_ ?_))
        obtain rfl : b = y.length := by omega
        repeat' (first | (refine fh_ob ?_) | refine o1 ?_ | refine o2 ?_ | refine k1 ?_ | refine k2 ?_ | refine k3 ?_ | refine k8 ?_ | refine And.intro ?_ ?_ | (intro h; first | exact Bool.noConfusion h | exact nz _ h | exact nl h | (simp at h; done) | (simp at h; first | (exfalso; omega) | skip) | skip) | refine eqv_wrap (by omega) (by omega) ?_ | fail)
        refine ⟨a + 1, by omega, by omega, ?_⟩
        rw [gr_all hrl]
        exact back [0, 1, 2, 3] rfl rfl (by repeat' (first | exact trivial | exact rfl | refine kept_ob rfl ?_ | refine kept_bx ren_bx3 rfl ?_ | refine And.intro ?_ ?_)) (by repeat' (first | exact trivial | exact rfl | exact ren_get rfl | refine And.intro ?_ ?_))
      obtain rfl : a = x.length := by omega
      refine forceH_in ?_
      refine ghost_seq (Γ' := [(1, vint .i64 rule), (2, .pv (.fn f caps)), (3, .ptr 0 4 0 0), (7, slP 1 4 (OUT.map Pair.row)), (8, vint .i64 i), (9, .pv (.sl 6 (x.map Opt.row))), (10, vint .i64 k), (17, .pv (.sl 1 (M.classes.map optsRow))), (18, vint .i64 M.classes.length), (19, vint .i64 i), (11, .ptr 2 4 0 0), (38, vint .i64 x.length), (39, vint .i64 x.length)])
        (H' := [some ⟨47, 4, false, .box (pvs M.cells)⟩, obP 101 4 (OUT.map Pair.row), some ⟨101, 4, false, .box [vint .i64 i, vint .i64 k, vint .i64 rule, .pv (.sl 1 ((tabV ent i k x y).map fun n => [ei n]))]⟩])
        (Ghost.shut_sl (i := 2) (c := 3) (id := 3) rfl rfl rfl (by decide) fun H' hl h2 hH => back [0, 1, 2] rfl rfl (And.intro (hH 0 (by decide) (by decide)) (kept_ob (hH 1 (by decide) (by decide)) (And.intro h2 trivial))) (by repeat' (first | exact trivial | exact rfl | exact ren_get rfl | refine And.intro ?_ ?_))) ?_
      have htl2 : (tabV ent i k x y).length ≤ 1000 := by unfold tabV; omega
      have hpo : (tabV ent i k x y).any (fun n => n != 0) = true → pairO M rule ent i k = some ⟨i, k, rule, tabV ent i k x y⟩ := fun h => by unfold pairO; rw [hx, hy]; exact if_pos ⟨by omega, h⟩
      have hpn : (tabV ent i k x y).any (fun n => n != 0) = false → pairO M rule ent i k = none := fun h => by unfold pairO; rw [hx, hy]; exact if_neg fun e => by rw [h] at e; cases e.2
      have hany := c_any_int (tabV ent i k x y) 224 [] (fun n => n != 0) (by omega) (fun x _ => c_pairs1 x)
      generalize hQ : ((tabV ent i k x y).any fun n => n != 0) = Q at *
      generalize tabV ent i k x y = TB at *
      repeat' (first | (refine fv_sl ?_) | (refine fh_ob ?_) | ((refine o_app rfl rfl rfl rfl rfl rfl rfl rfl rfl rfl rfl (by rw [List.length_map]; omega) (by rw [List.length_map]; omega) ?_)) | refine o1 ?_ | refine o2 ?_ | refine k1 ?_ | refine k2 ?_ | refine k3 ?_ | refine k6 ?_ | refine k8 ?_ | refine And.intro ?_ ?_ | (intro h; first | exact Bool.noConfusion h | exact nz _ h | exact nl h | (simp at h; done) | (simp at h; first | (exfalso; omega) | skip) | skip) | refine eqv_wrap (by omega) (by omega) ?_ | (change vcFun _ _ _ _ _; refine call_eq rfl (by repeat' (first | trivial | refine And.intro ?_ ?_ | (show 0 + _ ≤ List.length _; simp))) ALeL.refl (hany) rfl ?_) | fail)
      · refine ⟨k + 1, ⟨by omega, by omega⟩, by omega, ?_⟩
        rw [prsI_some (hpo (by assumption)), ← List.append_assoc, hOUT, map_snoc, sl_app, ob_app]
        exact back [0, 4] rfl rfl (by repeat' (first | exact trivial | exact rfl | refine And.intro ?_ ?_)) (by repeat' (first | exact trivial | exact rfl | refine And.intro ?_ ?_))
      · refine ⟨k + 1, ⟨by omega, by omega⟩, by omega, ?_⟩
        rw [prsI_none (hpn (by assumption)), hOUT]
        exact back [0, 1] rfl rfl (by repeat' (first | exact trivial | exact rfl | refine kept_ob rfl ?_ | refine And.intro ?_ ?_)) (by repeat' (first | exact trivial | exact rfl | exact ren_get rfl | refine And.intro ?_ ?_))
    obtain rfl : k = M.classes.length := by omega
    repeat' (first | (refine fh_ob ?_) | refine o1 ?_ | refine o2 ?_ | refine k1 ?_ | refine k2 ?_ | refine k3 ?_ | refine k8 ?_ | refine And.intro ?_ ?_ | (intro h; first | exact Bool.noConfusion h | exact nz _ h | exact nl h | (simp at h; done) | (simp at h; first | (exfalso; omega) | skip) | skip) | refine eqv_len_map ?_ | refine eqv_wrap (by omega) (by omega) ?_ | fail)
    refine ⟨i + 1, by omega, by omega, ?_⟩
    rw [gr_succ]
    exact back [0, 1] rfl rfl (by repeat' (first | exact trivial | exact rfl | refine kept_ob rfl ?_ | refine And.intro ?_ ?_)) (by repeat' (first | exact trivial | exact rfl | exact ren_get rfl | refine And.intro ?_ ?_))
  obtain rfl : i = M.classes.length := by omega
  repeat' (first | (refine fv_sl ?_) | (refine fh_ob ?_) | refine o1 ?_ | refine o2 ?_ | refine k1 ?_ | refine k2 ?_ | refine k3 ?_ | refine k7 ?_ | refine k8 ?_ | refine And.intro ?_ ?_ | (intro h; first | exact Bool.noConfusion h | exact nz _ h | exact nl h | (simp at h; done) | (simp at h; first | (exfalso; omega) | skip) | skip) | fail)
  exact hPost _ rfl
theorem c_pairs (M : Model) (rule : Int) (f : FuncId) (caps : List PV) (ent : Nat → Nat → Placed → Placed → Int) (hM : PairsOk M)
    (hf : ∀ i k x y, M.classes[i]? = some x → M.classes[k]? = some y → ∀ a ∈ x, ∀ b ∈ y, PCall Tryz.prog f (vint .i64 (i : Nat) :: vint .i64 (k : Nat) :: ag a.place.row :: ag b.place.row :: pvs caps) (fun r => r = vint .i64 (ent i k a.place b.place))) :
    PCall Tryz.prog 135 [ag M.cells, vint .i64 rule, .pv (.fn f caps)] (fun a => a = .pv (.sl 4 ((pairsV M rule ent).map Pair.row))) :=
  PCall.weak (Post := fun r => Leq r (.pv (.sl 4 ((pairsV M rule ent).map Pair.row)))) (c_pairs0 M rule f caps ent hM hf _ fun H h => ret_sl h ⟨ALe.refl⟩ leq_down) fun r h => ⟨_, h.le, rfl⟩
/-- The same, as a slice of its own. -/
theorem c_pairsO (M : Model) (rule : Int) (f : FuncId) (caps : List PV) (ent : Nat → Nat → Placed → Placed → Int) (hM : PairsOk M)
    (hf : ∀ i k x y, M.classes[i]? = some x → M.classes[k]? = some y → ∀ a ∈ x, ∀ b ∈ y, PCall Tryz.prog f (vint .i64 (i : Nat) :: vint .i64 (k : Nat) :: ag a.place.row :: ag b.place.row :: pvs caps) (fun r => r = vint .i64 (ent i k a.place b.place))) :
    ACall Tryz.prog 135 [ag M.cells, vint .i64 rule, .pv (.fn f caps)] [] (fun r H' => r = slP 0 4 ((pairsV M rule ent).map Pair.row) ∧ H' = [obP 101 4 ((pairsV M rule ent).map Pair.row)]) :=
  c_pairs0 M rule f caps ent hM hf _ fun H h => ret_obj [1] [obP 101 4 ((pairsV M rule ent).map Pair.row)] rfl rfl (kept_ob h trivial) (r' := slP 0 4 ((pairsV M rule ent).map Pair.row)) (by rw [ren_sl]; rfl) ⟨rfl, rfl⟩
end Go.Proofs.YtmaambipopgdkaaGreat.Cw

/-
  Contracts: the pairs of the two rules that are always there.
-/
namespace Go.Proofs.YtmaambipopgdkaaGreat.Cw
open Go Go.Cw Go.Proofs
set_option linter.unusedVariables false
set_option maxRecDepth 100000
set_option maxHeartbeats 4000000

theorem ren_pure {z d ty : Nat} {rn : List Nat} {rows : List (List PV)} : [obP ty z rows].map (renOpt d rn) = [obP ty z rows] := by
  cases rows <;> rfl
/-- A call that is handed pure values and hands back a slice of its own. -/
theorem call_sl {P : Program} {H : Heap} {K : AV → Heap → Prop} {f : FuncId} {args al : List AV} {z ty : Nat} {rows : List (List PV)} (hle : ALeL args al) (hr : renL H.length [] al = al) (hc : ACall P f al [] (fun r H' => r = slP 0 z rows ∧ H' = [obP ty z rows]))
    (hK : K (slP H.length z rows) (H ++ [obP ty z rows])) : vcFun P f args H K := by
  refine ⟨al, hle, .inr ⟨[], [], al, (fun r H' => r = slP 0 z rows ∧ H' = [obP ty z rows]), rfl, trivial, hr.symm, hc, fun r Hc' hp => ⟨Nat.zero_le _, ?_⟩⟩⟩
  obtain ⟨e1, e2⟩ := hp
  rw [e1, e2]
  show K (renC 0 ([] ++ tabl H.length 1) (slP 0 z rows)) (H ++ [obP ty z rows].map (renOpt 0 ([] ++ tabl H.length 1)))
  rw [List.nil_append, ren_pure, ren_sl]
  exact hK
theorem ALe.fn {f : FuncId} {caps : List PV} : ALe (.fn f (pvs caps)) (.pv (.fn f caps)) := fun I β w v h => by
  cases h with
  | fn hl h =>
    refine .pv (.fn (by rw [hl, pvs_map, List.length_map]) fun j p hj => ?_)
    have := h j (.pv p) (by rw [pvs_map, List.getElem?_map, hj]; rfl)
    cases this with
    | pv h => exact h
section
variable {T : Tab} {P : Program} {id z ty idx : Nat} {rows rows2 : List (List PV)}
theorem app_non {H : Heap} {i site : Nat} (h : H[i]? = some none) (h2 : H[site]? = some none) : app H [(i, none), (site, none)] = H := by
  rw [app_none h]
  have := app_none (i := site) (site := site) (o := none) h2
  have e : app H [(site, none), (site, none)] = app H [(site, none)] := by simp [app]
  show H.set site none = H
  apply List.ext_getElem?
  intro k
  rw [List.getElem?_set]
  by_cases e : site = k
  · subst e
    rw [if_pos rfl, if_pos (List.getElem?_eq_some_iff.1 h2).1, h2]
  · simp [e]
/-- A slice is appended to a slice. -/
theorem st_app2 {site b size bytes : Nat} {agg eagg : Bool} {zero ezero : List PV} {etk : TK} {s x : Operand} {t : TypeId} {d : Tmp} {Γ : Slots} {H : Heap} {K : Slots → Heap → Prop} (hs : ev Γ s = some (slP id z rows)) (hx : ev Γ x = some (slP idx z rows2)) (hl : Cw.look T t = some ⟨size, bytes, agg, .slice ty, zero⟩) (he : Cw.look T ty = some ⟨z, b, eagg, etk, ezero⟩) (hz : Nat.blt 0 z = true)
    (hi : H[idx]? = some (obP ty z rows2)) (ho : H[id]? = some (obP ty z rows)) (hst : H[site]? = some none) (hb : (rows.length + rows2.length) * b ≤ 140737488355328) (hn : rows.length + rows2.length ≤ 9223372036854775807)
    (h : forceH (app H [(id, none), (site, obP ty z (rows ++ rows2))]) fun H2 => K ((d, slP site z (rows ++ rows2)) :: Γ) H2) :
    vcStep P T site (some d) (.call { callee := .builtin .append, args := #[s, x], argTypes := #[t, t] }) Γ H K := by
  have hbq : Nat.beq t t = true := Nat.beq_refl t
  have hzz : Nat.beq z z = true := Nat.beq_refl z
  have hty : Nat.beq ty ty = true := Nat.beq_refl ty
  rw [forceH_eq] at h
  cases rows with
  | nil =>
    cases rows2 with
    | nil =>
      have h' : K ((d, nilA) :: Γ) (app H [(id, none), (site, none)]) := h
      rw [app_non ho hst] at h'
      simp only [vcStep, vcOp, hbq, hs, hx, vcAppend, hl, he, srcOk, hzz, hz, srcRows, Bool.and_self, Bool.true_and, slP, nilA, eqv_eq, putK, forceV, appK, forceH_eq]
      exact ⟨rfl, by simp [rowsLen], by simp [rowsLen], fun e => by simp [rowsLen] at e, fun _ => h'⟩
    | cons c m =>
      have h' : K ((d, .ms site z 0 (m.length + 1)) :: Γ) (app H [(id, none), (site, some ⟨ty, z, false, .p (c :: m)⟩)]) := h
      rw [app_none ho] at h'
      simp only [vcStep, vcOp, hbq, hs, hx, vcAppend, hl, he, srcOk, hzz, hz, srcRows, hi, obP, Bool.and_self, Bool.true_and, slP, nilA, eqv_eq, putK, forceV, appK, forceH_eq, List.drop_zero, List.take_length]
      refine ⟨by simp [rowsLen, srcLen], by simpa [rowsLen] using hb, by simpa [rowsLen] using hn, fun _ => ?_, fun e => by simp [rowsLen] at e⟩
      exact h'
  | cons a l =>
    cases rows2 with
    | nil =>
      have h' : K ((d, .ms site z 0 (l.length + 1)) :: Γ) (app H [(id, none), (site, some ⟨ty, z, false, .p (a :: l)⟩)]) := by simpa [slP, obP] using h
      simp only [vcStep, vcOp, hbq, hs, hx, vcAppend, hl, he, srcOk, hzz, hz, srcRows, ho, obP, Bool.and_self, Bool.true_and, slP, nilA, eqv_eq, putK, forceV, appK, forceH_eq, Bool.not_false, hty, dropR, catRows, List.drop_zero, List.append_nil]
      exact ⟨by simp [rowsLen], rfl, by simpa [rowsLen] using hb, by simpa [rowsLen] using hn, h'⟩
    | cons c m =>
      have h' : K ((d, .ms site z 0 ((a :: l) ++ (c :: m)).length) :: Γ) (app H [(id, none), (site, some ⟨ty, z, false, .p ((a :: l) ++ (c :: m))⟩)]) := h
      simp only [vcStep, vcOp, hbq, hs, hx, vcAppend, hl, he, srcOk, hzz, hz, srcRows, hi, ho, obP, Bool.and_self, Bool.true_and, slP, eqv_eq, putK, forceV, appK, forceH_eq, Bool.not_false, hty, dropR, catRows, List.drop_zero, List.take_length]
      have e : rowsLen (.p ((a :: l) ++ (c :: m))) = (a :: l).length + (c :: m).length := by rw [← List.length_append]; rfl
      refine ⟨by simp [rowsLen], by simp [rowsLen, srcLen], (by show rowsLen (.p ((a :: l) ++ (c :: m))) * b ≤ _; rw [e]; exact hb), (by show rowsLen (.p ((a :: l) ++ (c :: m))) ≤ _; rw [e]; exact hn), ?_⟩
      exact h'
theorem o_app2 {n site b size bytes : Nat} {agg eagg : Bool} {zero ezero : List PV} {etk : TK} {s x : Operand} {t : TypeId} {d : Tmp} {Γ : Slots} {H : Heap} {K : Slots → Heap → Prop} {o : Oper} {all l : List Oper} {dc : Known}
    (hop : o.op = .call { callee := .builtin .append, args := #[s, x], argTypes := #[t, t] }) (hg : o.guard = none) (hd : o.dst = some d) (hdn : Nat.blt d n = true) (hs : ev Γ s = some (slP id z rows)) (hx : ev Γ x = some (slP idx z rows2)) (hl : Cw.look T t = some ⟨size, bytes, agg, .slice ty, zero⟩) (he : Cw.look T ty = some ⟨z, b, eagg, etk, ezero⟩) (hz : Nat.blt 0 z = true)
    (hi : H[idx]? = some (obP ty z rows2)) (ho : H[id]? = some (obP ty z rows)) (hst : H[site]? = some none) (hb : (rows.length + rows2.length) * b ≤ 140737488355328) (hn : rows.length + rows2.length ≤ 9223372036854775807)
    (h : knOut dc d fun d2 => forceH (app H [(id, none), (site, obP ty z (rows ++ rows2))]) fun H2 => xOps P T n all l (site + 1) K d2 ((d, slP site z (rows ++ rows2)) :: Γ) H2) :
    xOps P T n all (o :: l) site K dc Γ H := by
  refine ops_cons ?_
  have e1 : dstOk n o = true := by unfold dstOk; rw [hd]; exact hdn
  have e2 : isAlloc o.op = true := by rw [hop]; rfl
  rw [e1, e2]
  show vcGuard all Γ dc o.guard _ _
  rw [hg]
  simp only [vcGuard, knPut, hd, hop, knRes, simpOp]
  exact knOut_mono dc _ _ (fun d2 hh => st_app2 hs hx hl he hz hi ho hst hb hn hh) h
end
end Go.Proofs.YtmaambipopgdkaaGreat.Cw

/-
  Contracts: the pairs of the two rules that are always there.
-/
namespace Go.Proofs.YtmaambipopgdkaaGreat.Cw
open Go.Cw Go.Proofs
set_option linter.unusedVariables false
set_option maxRecDepth 100000
set_option maxHeartbeats 4000000

noncomputable def entRoom (i k : Nat) (a b : Placed) : Int := forbI (pB (roomP a b))
def staffQ (r : Reg) (i k : Nat) (a b : Placed) : Prop := ∃ x y, r.classes[i]? = some x ∧ r.classes[k]? = some y ∧ staffP x y a b
noncomputable def entStaff (r : Reg) (i k : Nat) (a b : Placed) : Int := forbI (pB (staffQ r i k a b))
noncomputable def builtP (r : Reg) (M : Model) (ro st : Int) : List Pair := pairsV M ro entRoom ++ pairsV M st (entStaff r)
theorem entStaff_at {r : Reg} {i k : Nat} {a b : Placed} {x y : Class} (hx : r.classes[i]? = some x) (hy : r.classes[k]? = some y) : entStaff r i k a b = forbI (pB (staffP x y a b)) := by
  unfold entStaff
  refine congrArg forbI (pB_iff ⟨fun ⟨x', y', h1, h2, h3⟩ => ?_, fun h => ⟨x, y, hx, hy, h⟩⟩)
  rw [hx] at h1; rw [hy] at h2; cases h1; cases h2; exact h3
theorem pairsV_len {M : Model} {rule : Int} {ent : Nat → Nat → Placed → Placed → Int} (h : M.classes.length ≤ 100) : (pairsV M rule ent).length ≤ 10000 := by
  have h1 := gr_len (F := fun i => prsI M rule ent i M.classes.length) (m := M.classes.length) (fun i => prsI_len) M.classes.length
  have h2 : M.classes.length * M.classes.length ≤ 100 * 100 := Nat.mul_le_mul h h
  unfold pairsV
  omega
theorem c_builtin0 (r : Reg) (M : Model) (ro st : Int) (hM : PairsOk M) (hl : M.classes.length = r.classes.length) (hs : ∀ c ∈ r.classes, c.staff.length ≤ 100000) :
    PCall Tryz.prog 46 [ag r.cells, ag M.cells, vint .i64 ro, vint .i64 st] (fun a => Leq a (.pv (.sl 4 ((builtP r M ro st).map Pair.row)))) := by
  have hA := c_pairsO M ro 136 [] entRoom hM fun i k x y hx hy a ha b hb => c_b2 i k a.place b.place
  have hB := c_pairsO M st 139 [.ia [.fn 131 [.ia r.cells]]] (entStaff r) hM fun i k x y hx hy a ha b hb => by
    have hi : i < r.classes.length := by rw [← hl]; exact (List.getElem?_eq_some_iff.1 hx).1
    have hk : k < r.classes.length := by rw [← hl]; exact (List.getElem?_eq_some_iff.1 hy).1
    obtain ⟨cx, hcx⟩ := getE hi
    obtain ⟨cy, hcy⟩ := getE hk
    rw [entStaff_at hcx hcy]
    exact c_b3 r i k cx cy a.place b.place hcx hcy (by have := hM.cls; omega) (hs cx (List.mem_of_getElem? hcx)) (hs cy (List.mem_of_getElem? hcy))
  have hl1 := pairsV_len (rule := ro) (ent := entRoom) hM.cls
  have hl2 := pairsV_len (rule := st) (ent := entStaff r) hM.cls
  unfold builtP
  rw [List.map_append]
  have hlA : ((pairsV M ro entRoom).map Pair.row).length ≤ 10000 := by rw [List.length_map]; exact hl1
  have hlB : ((pairsV M st (entStaff r)).map Pair.row).length ≤ 10000 := by rw [List.length_map]; exact hl2
  generalize (pairsV M ro entRoom).map Pair.row = A at *
  generalize (pairsV M st (entStaff r)).map Pair.row = B at *
  have hle : ALeL [AV.agg (pvs M.cells), vint .i64 st, AV.fn 139 (pvs [.ia [.fn 131 [.ia r.cells]]])] [ag M.cells, vint .i64 st, .pv (.fn 139 [.ia [.fn 131 [.ia r.cells]]])] := ⟨ALe.refl, ALe.refl, ALe.fn, trivial⟩
  refine acall_of tok mixed 21 rfl (fn := Tryz.f46) (c := Tryz.f46.body.getD .skip) (by kernel_rfl) (by kernel_rfl) (by kernel_rfl) rfl 0 rfl ?_
  repeat' (first | ((refine ghost_region (Ghost.freeze (x := .ptr 2 1 0 0) (s := 9) rfl rfl (by repeat' (first | trivial | refine And.intro ?_ ?_ | (show 0 + _ ≤ List.length _; simp)))) ?_)) | (refine fv_sl ?_) | (refine fh_ob ?_) | ((change vcFun _ _ _ _ _; refine call_sl ALeL.refl rfl hA ?_)) | ((change vcFun _ _ _ _ _; refine call_sl hle rfl hB ?_)) | ((refine o_app2 rfl rfl rfl rfl rfl rfl rfl rfl rfl rfl rfl rfl (by omega) (by omega) ?_)) | refine o1 ?_ | refine o2 ?_ | refine k1 ?_ | refine k2 ?_ | refine k7 ?_ | refine And.intro ?_ ?_ | exact (by kernel_rfl : drawOk _ _ = true) | fail)
  change retOk _ _ _ _
  exact ret_sl (id := 4) (ty := 101) rfl ⟨ALe.refl⟩ leq_down
theorem c_builtin (r : Reg) (M : Model) (ro st : Int) (hM : PairsOk M) (hl : M.classes.length = r.classes.length) (hs : ∀ c ∈ r.classes, c.staff.length ≤ 100000) :
    PCall Tryz.prog 46 [ag r.cells, ag M.cells, vint .i64 ro, vint .i64 st] (fun a => a = .pv (.sl 4 ((builtP r M ro st).map Pair.row))) :=
  (c_builtin0 r M ro st hM hl hs).weak fun r h => ⟨_, h.le, rfl⟩
end Go.Proofs.YtmaambipopgdkaaGreat.Cw

/-
  Contracts: Build.
-/
namespace Go.Proofs.YtmaambipopgdkaaGreat.Cw
open Go.Cw Go.Proofs
set_option linter.unusedVariables false
set_option maxRecDepth 100000
set_option maxHeartbeats 4000000

noncomputable def buildM (r : Reg) : Model := if regE r = 0 ∧ buildE r = 0 then builtM (buildC r) (builtP r (builtM (buildC r) [] 2) 0 1) 2 else builtM [] [] 0
noncomputable def buildX (r : Reg) : Int := if regE r = 0 then buildE r else 1
theorem buildM_bad {r : Reg} (h : ¬ regE r = 0) : buildM r = builtM [] [] 0 ∧ buildX r = 1 := ⟨by unfold buildM; rw [if_neg (fun k => h k.1)], by unfold buildX; rw [if_neg h]⟩
theorem buildM_many {r : Reg} (h : regE r = 0) (h2 : ¬ buildE r = 0) : buildM r = builtM [] [] 0 ∧ buildX r = buildE r := ⟨by unfold buildM; rw [if_neg (fun k => h2 k.2)], by unfold buildX; rw [if_pos h]⟩
theorem buildM_ok {r : Reg} (h : regE r = 0) (h2 : buildE r = 0) : buildM r = builtM (buildC r) (builtP r (builtM (buildC r) [] 2) 0 1) 2 ∧ buildX r = 0 := ⟨by unfold buildM; rw [if_pos ⟨h, h2⟩], by unfold buildX; rw [if_pos h, h2]⟩
theorem reg_cls {r : Reg} (h : regE r = 0) : r.classes.length ≤ 24 ∧ ∀ c ∈ r.classes, c.staff.length ≤ 100000 := by
  have z := orI_z (regE_z h).1
  have g6 : classesE r.classes r.grid r.term.weeks = 0 := z _ (by simp [partsE])
  have hl := classes_len g6
  exact ⟨hl.1, fun c hc => by have := cls_z (hl.2 c hc); omega⟩
theorem buildC_ok {r : Reg} (h : regE r = 0) (h2 : buildE r = 0) : (buildC r).length = r.classes.length ∧ ∀ l ∈ buildC r, l.length ≤ 24 := by
  have e : buildC r = r.classes.map (optsV r) := by unfold buildC; rw [if_pos h2]
  rw [e]
  refine ⟨by rw [List.length_map], fun l hl => ?_⟩
  obtain ⟨c, -, rfl⟩ := List.mem_map.1 hl
  exact optsV_len
theorem built_pairs {r : Reg} (h : regE r = 0) (h2 : buildE r = 0) (P : List Pair) (n : Int) : PairsOk (builtM (buildC r) P n) := by
  obtain ⟨h3, h4⟩ := buildC_ok h h2
  have h5 := (reg_cls h).1
  refine ⟨by show (List.map _ _).length ≤ _; rw [List.length_map]; omega, fun l hl => ?_⟩
  obtain ⟨x, hx, rfl⟩ := List.mem_map.1 hl
  rw [List.length_map]; exact h4 x hx
theorem c_build0 (r : Reg) : PCall Tryz.prog 11 [ag r.cells] (fun a => Leq a (.tup [ag (buildM r).cells, vint .i64 (buildX r)])) := by
  by_cases h : regE r = 0
  · by_cases h2 : buildE r = 0
    · obtain ⟨e1, e2⟩ := buildM_ok h h2
      rw [e1, e2]
      have hB := c_builtin r (builtM (buildC r) [] 2) 0 1 (built_pairs h h2 _ _) (by show (List.map _ _).length = _; rw [List.length_map]; exact (buildC_ok h h2).1) (reg_cls h).2
      have hC := c_clsM r h
      rw [h2] at hC
      generalize builtP r (builtM (buildC r) [] 2) 0 1 = B at *
      generalize buildC r = C at *
      refine acall_of tok mixed 25 rfl (fn := Tryz.f11) (c := Tryz.f11.body.getD .skip) (by kernel_rfl) (by kernel_rfl) (by kernel_rfl) rfl 0 rfl ?_
      repeat' (first | ((change vcFun _ _ _ _ _; refine call_frz rfl (by repeat' (first | trivial | refine And.intro ?_ ?_ | (show 0 + _ ≤ List.length _; simp))) ALeL.refl hC ?_; rintro _ rfl)) | ((change vcFun _ _ _ _ _; refine call_frz rfl (by repeat' (first | trivial | refine And.intro ?_ ?_ | (show 0 + _ ≤ List.length _; simp))) ALeL.refl hB ?_; rintro _ rfl)) | refine o1 ?_ | refine o2 ?_ | refine k1 ?_ | refine k2 ?_ | refine k3 ?_ | refine k6 ?_ | refine k7 ?_ | refine And.intro ?_ ?_ | (intro h; first | exact Bool.noConfusion h | exact nz _ h | exact nl h | (simp at h; done) | (simp at h; first | (exfalso; omega) | skip) | skip) | exact (by kernel_rfl : drawOk _ _ = true) | (change vcFun _ _ _ _ _; refine call_eq rfl (by repeat' (first | trivial | refine And.intro ?_ ?_ | (show 0 + _ ≤ List.length _; simp))) ALeL.refl (c_check r) rfl ?_) | fail)
      change retOk _ _ _ _; refine ret_pure rfl (by repeat' (first | exact True.intro | refine And.intro ?_ ?_)) ?_
      exact ⟨ALe.tup ⟨ALe.refl, ALe.refl, trivial⟩⟩
    · obtain ⟨e1, e2⟩ := buildM_many h h2
      rw [e1, e2]
      have hC := c_clsM r h
      have e3 : buildC r = [] := by unfold buildC; rw [if_neg h2]
      rw [e3] at hC
      generalize buildE r = X at *
      refine acall_of tok mixed 25 rfl (fn := Tryz.f11) (c := Tryz.f11.body.getD .skip) (by kernel_rfl) (by kernel_rfl) (by kernel_rfl) rfl 0 rfl ?_
      repeat' (first | ((change vcFun _ _ _ _ _; refine call_frz rfl (by repeat' (first | trivial | refine And.intro ?_ ?_ | (show 0 + _ ≤ List.length _; simp))) ALeL.refl hC ?_; rintro _ rfl)) | refine o1 ?_ | refine o2 ?_ | refine k1 ?_ | refine k2 ?_ | refine k3 ?_ | refine k6 ?_ | refine k7 ?_ | refine And.intro ?_ ?_ | (intro h; first | exact Bool.noConfusion h | exact nz _ h | exact nl h | (simp at h; done) | (simp at h; first | (exfalso; omega) | skip) | skip) | exact (by kernel_rfl : drawOk _ _ = true) | (change vcFun _ _ _ _ _; refine call_eq rfl (by repeat' (first | trivial | refine And.intro ?_ ?_ | (show 0 + _ ≤ List.length _; simp))) ALeL.refl (c_check r) rfl ?_) | fail)
      change retOk _ _ _ _; refine ret_pure rfl (by repeat' (first | exact True.intro | refine And.intro ?_ ?_)) ?_
      exact ⟨ALe.tup ⟨ALe.agg le_zeroM, ALe.refl, trivial⟩⟩
  · obtain ⟨e1, e2⟩ := buildM_bad h
    rw [e1, e2]
    refine acall_of tok mixed 25 rfl (fn := Tryz.f11) (c := Tryz.f11.body.getD .skip) (by kernel_rfl) (by kernel_rfl) (by kernel_rfl) rfl 0 rfl ?_
    repeat' (first | refine o1 ?_ | refine o2 ?_ | refine k1 ?_ | refine k2 ?_ | refine k3 ?_ | refine k7 ?_ | refine And.intro ?_ ?_ | (intro h; first | exact Bool.noConfusion h | exact nz _ h | exact nl h | (simp at h; done) | (simp at h; first | (exfalso; omega) | skip) | skip) | exact (by kernel_rfl : drawOk _ _ = true) | (change vcFun _ _ _ _ _; refine call_eq rfl (by repeat' (first | trivial | refine And.intro ?_ ?_ | (show 0 + _ ≤ List.length _; simp))) ALeL.refl (c_check r) rfl ?_) | fail)
    change retOk _ _ _ _; refine ret_pure rfl (by repeat' (first | exact True.intro | refine And.intro ?_ ?_)) ?_
    exact ⟨ALe.tup ⟨ALe.agg le_zeroM, ALe.refl, trivial⟩⟩
theorem c_build (r : Reg) : PCall Tryz.prog 11 [ag r.cells] (fun a => a = .tup [ag (buildM r).cells, vint .i64 (buildX r)]) :=
  (c_build0 r).weak fun r h => ⟨_, h.le, rfl⟩
end Go.Proofs.YtmaambipopgdkaaGreat.Cw

/-
  Contracts: the reference's Build.
-/
namespace Go.Proofs.YtmaambipopgdkaaGreat.Cw
open Go.Cw Go.Proofs
set_option linter.unusedVariables false
set_option maxRecDepth 100000
set_option maxHeartbeats 20000000

/-- A slice in a cell of a box that grows no more, said in another way. -/
theorem Ghost.shut_le {n nh i c ty' z' id z ty : Nat} {rows : List (List PV)} {q : PV} {fz : Bool} {cs : List AV} {Γ Γ2 : Slots} {H H2 : Heap} (hi : H[i]? = some (some ⟨ty', z', fz, .box cs⟩)) (hx : cs[c]? = some (slP id z rows)) (ho : H[id]? = some (obP ty z rows)) (hne : i ≠ id) (hq : PLe (.sl z rows) q)
    (k : ∀ H' : Heap, H'.length = H.length → H'[i]? = some (some ⟨ty', z', fz, .box (cs.set c (.pv q))⟩) → (∀ j : Nat, j ≠ id → j ≠ i → H'[j]? = H[j]?) → Ghost n nh Γ H' Γ2 H2) : Ghost n nh Γ H Γ2 H2 := by
  obtain ⟨r0, h1, h2, h3⟩ := conv_sl ho
  have hn : i ∉ ids1 H (slP id z rows) := by
    cases rows with
    | nil => exact List.not_mem_nil
    | cons a l =>
      have e : ids1 H (slP id z (a :: l)) = [id] := by
        show idsC H 5 (.ms id z 0 (a :: l).length) = _
        simp only [idsC, ho, obP]; rfl
      rw [e]; simpa using hne
  have g := Ghost.shut (n := n) (nh := nh) (Γ := Γ) (y' := .pv q) hi hx h1 h2 hn (fun I β w v hv => ALe.pv hq I β w v (h3 I β w v hv))
  have hlt := (List.getElem?_eq_some_iff.1 hi).1
  refine g.trans (k _ (by rw [List.length_set, app_length]) ?_ fun j hj1 hj2 => ?_)
  · rw [List.getElem?_set, if_pos rfl, if_pos (by rw [app_length]; exact hlt)]
  · rw [List.getElem?_set, if_neg (fun e => hj2 e.symm)]
    exact ids_sl ho j hj1
theorem optsV_room {r : Reg} {c : Class} {p : Placed} (h : p ∈ optsV r c) : p.room = -1 ∨ 0 ≤ p.room := by
  unfold optsV at h
  split at h
  · cases h
  unfold optsAll gr at h
  obtain ⟨i, -, h⟩ := List.mem_flatMap.1 h
  unfold optsF at h
  split at h
  · unfold optsT at h
    split at h
    · cases h
    · split at h
      · simp at h; left; rw [h]
      · unfold upto at h
        obtain ⟨j, -, h⟩ := List.mem_filterMap.1 h
        obtain ⟨q, h3, h4⟩ := Option.bind_eq_some_iff.1 h
        obtain ⟨m, x, rfl, -⟩ := roomsV_at h3
        unfold openF at h4
        obtain ⟨y, -, h5⟩ := Option.bind_eq_some_iff.1 h4
        split at h5
        · cases h5; right; exact Int.natCast_nonneg _
        · cases h5
  · cases h
attribute [local irreducible] optsV optsE
noncomputable def entU (r : Reg) (u : Nat) : Nat → Nat → Placed → Placed → Int := if u = 1 then entStaff r else entRoom
noncomputable def prsU (r : Reg) (M : Model) (u : Nat) : List Pair := gr (fun u => pairsV M (u : Int) (entU r u)) u
noncomputable def prsUi (r : Reg) (M : Model) (u i : Nat) : List Pair := prsU r M u ++ gr (fun i => prsI M (u : Int) (entU r u) i M.classes.length) i
noncomputable def prsUk (r : Reg) (M : Model) (u i k : Nat) : List Pair := prsUi r M u i ++ prsI M (u : Int) (entU r u) i k
theorem prsU_zero {r : Reg} {M : Model} : prsU r M 0 = [] := rfl
theorem prsU_len {r : Reg} {M : Model} {u : Nat} (h : M.classes.length ≤ 100) : (prsU r M u).length ≤ u * 10000 := gr_len (fun u => pairsV_len h) u
theorem prsUi_len {r : Reg} {M : Model} {u i : Nat} (h : M.classes.length ≤ 100) (hi : i ≤ M.classes.length) : (prsUi r M u i).length ≤ u * 10000 + 10000 := by
  have h1 := prsU_len (r := r) (u := u) h
  have h2 := gr_len (F := fun i => prsI M (u : Int) (entU r u) i M.classes.length) (m := M.classes.length) (fun i => prsI_len) i
  have h3 : i * M.classes.length ≤ 100 * 100 := Nat.mul_le_mul (by omega) h
  unfold prsUi; rw [List.length_append]; omega
theorem prsUk_len {r : Reg} {M : Model} {u i k : Nat} (h : M.classes.length ≤ 100) (hi : i ≤ M.classes.length) (hk : k ≤ M.classes.length) : (prsUk r M u i k).length ≤ u * 10000 + 10100 := by
  have h1 := prsUi_len (r := r) (u := u) h hi
  have h2 := prsI_len (M := M) (rule := (u : Int)) (ent := entU r u) (i := i) (m := k)
  unfold prsUk; rw [List.length_append]; omega
theorem prsUi_zero {r : Reg} {M : Model} {u : Nat} : prsUi r M u 0 = prsU r M u := by unfold prsUi; rw [gr_zero, List.append_nil]
theorem prsUi_all {r : Reg} {M : Model} {u : Nat} : prsUi r M u M.classes.length = prsU r M (u + 1) := by unfold prsUi prsU; rw [gr_succ]; rfl
theorem prsUk_begin {r : Reg} {M : Model} {u i : Nat} : prsUk r M u i (i + 1) = prsUi r M u i := by unfold prsUk; rw [prsI_begin (Nat.le_refl _), List.append_nil]
theorem prsUk_all {r : Reg} {M : Model} {u i : Nat} : prsUk r M u i M.classes.length = prsUi r M u (i + 1) := by unfold prsUk prsUi; rw [gr_succ, List.append_assoc]
theorem prsUk_none {r : Reg} {M : Model} {u i k : Nat} (h : pairO M (u : Int) (entU r u) i k = none) : prsUk r M u i (k + 1) = prsUk r M u i k := by unfold prsUk; rw [prsI_none h]
theorem prsUk_some {r : Reg} {M : Model} {u i k : Nat} {p : Pair} (h : pairO M (u : Int) (entU r u) i k = some p) : prsUk r M u i (k + 1) = prsUk r M u i k ++ [p] := by unfold prsUk; rw [prsI_some h, List.append_assoc]
theorem prsU_two {r : Reg} {M : Model} : prsU r M 2 = builtP r M 0 1 := by
  unfold prsU builtP gr
  simp [List.range_succ, entU]
theorem entU_z {r : Reg} {i k : Nat} {cx cy : Class} (hs : ¬ sharedP cx cy) (hcx : r.classes[i]? = some cx) (hcy : r.classes[k]? = some cy) (a b : Placed) : entU r 1 i k a b = 0 := by
  unfold entU
  rw [if_pos rfl, entStaff_at hcx hcy, pB_f (fun h => hs h.1)]
  rfl
theorem gr_zeros {F : Nat → List Int} (h : ∀ i, ∀ n ∈ F i, n = 0) (m : Nat) : ((gr F m).any fun n => n != 0) = false := List.any_eq_false.2 fun n hn => by
  obtain ⟨i, -, h2⟩ := List.mem_flatMap.1 hn
  simp [h i n h2]
theorem entU_off {r : Reg} {M : Model} {u i k : Nat} {cx cy : Class} (hu : u = 1) (hs : ¬ sharedP cx cy) (hcx : r.classes[i]? = some cx) (hcy : r.classes[k]? = some cy) : pairO M (u : Int) (entU r u) i k = none := by
  subst hu
  unfold pairO
  split
  · rename_i x y _ _
    have : ((tabV (entU r 1) i k x y).any fun n => n != 0) = false := gr_zeros (fun j n hn => by
      unfold rowV at hn
      split at hn
      · obtain ⟨q, -, rfl⟩ := List.mem_map.1 hn
        exact entU_z hs hcx hcy _ _
      · cases hn) _
    rw [this]
    exact if_neg fun h => by cases h.2
  · rfl
theorem entU_on {r : Reg} {u i k : Nat} {cx cy : Class} {p q : Placed} (hu : u < 2) (hs : ¬ (u = 1 ∧ ¬ sharedP cx cy)) (hcx : r.classes[i]? = some cx) (hcy : r.classes[k]? = some cy) (h1 : ovP p.time q.time) (h2 : u = 1 ∨ (0 ≤ p.room ∧ p.room = q.room)) : entU r u i k p q = 1099511627776 := by
  unfold entU
  split
  · rename_i h
    have : sharedP cx cy := Classical.byContradiction fun k => hs ⟨h, k⟩
    rw [entStaff_at hcx hcy, pB_t ⟨this, h1⟩]; rfl
  · rename_i h
    have h3 : 0 ≤ p.room ∧ p.room = q.room := h2.resolve_left h
    unfold entRoom
    rw [pB_t (show roomP p q from ⟨by omega, h3.2, h1⟩)]; rfl
theorem entU_no {r : Reg} {u i k : Nat} {cx cy : Class} {p q : Placed} (hu : u < 2) (hs : ¬ (u = 1 ∧ ¬ sharedP cx cy)) (hcx : r.classes[i]? = some cx) (hcy : r.classes[k]? = some cy) (h1 : p.room = -1 ∨ 0 ≤ p.room) (h2 : ¬ (ovP p.time q.time ∧ (u = 1 ∨ (0 ≤ p.room ∧ p.room = q.room)))) : entU r u i k p q = 0 := by
  unfold entU
  split
  · rename_i h
    rw [entStaff_at hcx hcy, pB_f (fun k => h2 ⟨k.2, .inl h⟩)]; rfl
  · unfold entRoom
    rw [pB_f (show ¬ roomP p q from fun k => h2 ⟨k.2.2, .inr ⟨by have := k.1; omega, k.2.1⟩⟩)]; rfl
theorem any_z {T : List Int} {e : Int} (h : e = 0) : ((T ++ [e]).any fun n => n != 0) = (T.any fun n => n != 0) := by subst h; simp
theorem any_nz {T : List Int} {e : Int} (h : e = 1099511627776) : ((T ++ [e]).any fun n => n != 0) = true := by subst h; simp
theorem ov_of {x y : Time} (h : ¬ apartB [x] y) : ovP x y := Classical.byContradiction fun k => h fun z hz => by
  rw [List.mem_singleton] at hz; subst hz; exact k
theorem no_ov {x y : Time} (h : apartB [x] y) (k : ovP x y) : False := h x (by simp) k
theorem c_rbuild0 (r : Reg) (h0 : regE r = 0) : PCall Tryz.prog 12 [ag r.cells] (fun a => Leq a (.tup [ag (buildM r).cells, vint .i64 (buildX r)])) := by
  have hlen := (reg_cls h0).1
  refine acall_of tok mixed 181 rfl (fn := Tryz.f12) (c := Tryz.f12.body.getD .skip) (by kernel_rfl) (by kernel_rfl) (by kernel_rfl) rfl 0 rfl ?_
  repeat' (first | refine o1 ?_ | refine o2 ?_ | refine k1 ?_ | refine k2 ?_ | refine k3 ?_ | refine k4 ?_ | refine k6 ?_ | refine And.intro ?_ ?_ | (intro h; first | exact Bool.noConfusion h | exact nz _ h | exact nl h | (simp at h; done) | (simp at h; first | (exfalso; omega) | skip) | skip) | exact (by kernel_rfl : drawOk _ _ = true) | (change vcFun _ _ _ _ _; refine call_eq rfl (by repeat' (first | trivial | refine And.intro ?_ ?_ | (show 0 + _ ≤ List.length _; simp))) ALeL.refl (c_rcheckR r) rfl ?_) | fail)
  rotate_left
  refine loop_for (fun i : Nat => [(1, .ptr 0 14 0 0), (2, .ptr 1 4 0 0), (3, vint .i64 0), (4, .ptr 2 4 0 0), (5, vint .i64 i)])
    (fun i => [some ⟨37, 14, false, .box (pvs r.cells)⟩, some ⟨47, 4, false, .box (pvs zeroM)⟩, some ⟨47, 4, false, .box [slP 3 1 (clsRows r i), nilA, nilA, vint .i64 2]⟩, obP 99 1 (clsRows r i)])
    (fun i => i ≤ r.classes.length ∧ ∀ j, j < i → optE r j = 0) (fun i => r.classes.length - i) 0 ⟨Nat.zero_le _, fun j hj => by omega⟩ ?_ ?_
  · exact back [0, 1, 2, 3] rfl rfl (by repeat' (first | exact trivial | exact rfl | refine kept_bx ren_bx0 rfl ?_ | refine And.intro ?_ ?_)) (by repeat' (first | exact trivial | exact rfl | refine And.intro ?_ ?_))
  intro i ⟨hi, hall⟩
  have hrl := clsRows_len (r := r) (i := i)
  rcases Nat.lt_or_ge i r.classes.length with hlt | hge
  · obtain ⟨c, hc⟩ := getE hlt
    have hok := optOk h0 (List.mem_of_getElem? hc)
    have hvl := optsV_len (r := r) (c := c)
    repeat' (first | (refine fh_ob ?_) | refine o1 ?_ | refine o2 ?_ | refine k1 ?_ | refine k2 ?_ | refine k3 ?_ | refine k4 ?_ | refine k6 ?_ | refine k7 ?_ | refine And.intro ?_ ?_ | refine o3 ?_ | refine o4 ?_ | (intro h; first | exact Bool.noConfusion h | exact nz _ h | exact nl h | (simp at h; done) | (simp at h; first | (exfalso; omega) | skip) | skip) | exact (by kernel_rfl : drawOk _ _ = true) | refine eqv_len_map ?_ | refine ⟨_, _, (by first | rfl | assumption), at_map (by assumption), ?_⟩ | (change vcFunD _ _ _ _ _; refine callD_eq rfl (by repeat' (first | trivial | refine And.intro ?_ ?_ | (show 0 + _ ≤ List.length _; simp))) ALeL.refl (c_roptions r c hok) rfl ?_) | fail)
    · obtain ⟨e1, e2⟩ := build_bad hall hc (by assumption)
      have e3 : ¬ buildE r = 0 := by rw [e1]; assumption
      obtain ⟨e4, e5⟩ := buildM_many h0 e3
      rw [e4, e5, e1]
      change retOk _ _ _ _; refine ret_pure rfl (by repeat' (first | exact True.intro | refine And.intro ?_ ?_)) ?_
      exact ⟨ALe.tup ⟨ALe.agg le_zeroM, ALe.refl, trivial⟩⟩
    have hz : optsE r c = 0 := by assumption
    generalize hO : optsV r c = O at *
    refine loop_for (fun k : Nat => [(1, .ptr 0 14 0 0), (2, .ptr 1 4 0 0), (3, vint .i64 0), (4, .ptr 2 4 0 0), (5, vint .i64 i), (6, .pv (.sl 5 (O.map Placed.row))), (8, slP 4 6 ((O.take k).map optN)), (9, vint .i64 k)])
      (fun k => [some ⟨37, 14, false, .box (pvs r.cells)⟩, some ⟨47, 4, false, .box (pvs zeroM)⟩, some ⟨47, 4, false, .box [slP 3 1 (clsRows r i), nilA, nilA, vint .i64 2]⟩, obP 99 1 (clsRows r i), obP 106 6 ((O.take k).map optN)]) (fun k => k ≤ O.length) (fun k => O.length - k) 0 (Nat.zero_le _) ?_ ?_
    · exact back [0, 1, 2, 3, 4] rfl rfl (by repeat' (first | exact trivial | exact rfl | refine kept_ob rfl ?_ | refine kept_bx ren_bx0 rfl ?_ | refine And.intro ?_ ?_)) (by repeat' (first | exact trivial | exact rfl | refine And.intro ?_ ?_))
    intro k hk
    rcases Nat.lt_or_ge k O.length with hkl | hkg
    · obtain ⟨p, hp⟩ := getE hkl
      have htk : (O.take k).length ≤ 24 := Nat.le_trans (List.length_take_le' ..) hvl
      repeat' (first | (refine fv_sl ?_) | (refine fh_ob ?_) | ((refine o_app rfl rfl rfl rfl rfl rfl rfl rfl rfl rfl rfl (by rw [List.length_map]; omega) (by rw [List.length_map]; omega) ?_)) | refine o1 ?_ | refine o2 ?_ | refine k1 ?_ | refine k2 ?_ | refine k3 ?_ | refine k4 ?_ | refine k6 ?_ | refine And.intro ?_ ?_ | (intro h; first | exact Bool.noConfusion h | exact nz _ h | exact nl h | (simp at h; done) | (simp at h; first | (exfalso; omega) | skip) | skip) | refine eqv_len_map ?_ | refine eqv_wrap (by omega) (by omega) ?_ | refine ⟨_, _, (by first | rfl | assumption), at_map (by assumption), ?_⟩ | fail)
      refine ⟨k + 1, by omega, by omega, ?_⟩
      rw [take_snoc hp, map_snoc, sl_app, ob_app]
      exact back [0, 1, 2, 3, 6] rfl rfl (by repeat' (first | exact trivial | exact rfl | refine kept_ob rfl ?_ | refine kept_bx ren_bx0 rfl ?_ | refine And.intro ?_ ?_)) (by repeat' (first | exact trivial | exact rfl | refine And.intro ?_ ?_))
    obtain rfl : k = O.length := by omega
    refine forceH_in ?_
    rw [List.take_length]
    refine ghost_seq (Γ' := [(1, .ptr 0 14 0 0), (2, .ptr 1 4 0 0), (3, vint .i64 0), (4, .ptr 2 4 0 0), (5, vint .i64 i), (6, .pv (.sl 5 (O.map Placed.row))), (8, .pv (.sl 6 (O.map optN))), (9, vint .i64 O.length)]) (H' := [some ⟨37, 14, false, .box (pvs r.cells)⟩, some ⟨47, 4, false, .box (pvs zeroM)⟩, some ⟨47, 4, false, .box [slP 3 1 (clsRows r i), nilA, nilA, vint .i64 2]⟩, obP 99 1 (clsRows r i)]) (Ghost.sl (s := 8) (id := 4) rfl rfl fun H' hl hH => back [0, 1, 2, 3] rfl rfl (And.intro (hH 0 (by decide)) (And.intro (hH 1 (by decide)) (kept_bx ren_bx0 (hH 2 (by decide)) (kept_ob (hH 3 (by decide)) trivial)))) (by repeat' (first | exact trivial | exact rfl | refine And.intro ?_ ?_))) ?_
    have hsn := clsRows_succ hc
    have hcr : clsRow r c = [.sl 6 (O.map optN)] := by unfold clsRow optsN; rw [hO]
    rw [hcr] at hsn
    generalize clsRows r i = CR at *
    repeat' (first | (refine fv_sl ?_) | (refine fh_ob ?_) | ((refine o_app rfl rfl rfl rfl rfl rfl rfl rfl rfl rfl rfl (by omega) (by omega) ?_)) | refine o1 ?_ | refine o2 ?_ | refine k1 ?_ | refine k2 ?_ | refine k3 ?_ | refine k8 ?_ | refine And.intro ?_ ?_ | (intro h; first | exact Bool.noConfusion h | exact nz _ h | exact nl h | (simp at h; done) | (simp at h; first | (exfalso; omega) | skip) | skip) | refine eqv_len_map ?_ | refine eqv_wrap (by omega) (by omega) ?_ | fail)
    refine ⟨i + 1, ⟨by omega, all_lt_succ hall (by rw [optE_at hc]; exact hz)⟩, by omega, ?_⟩
    rw [hsn, sl_app, ob_app]
    exact back [0, 1, 2, 5] rfl rfl (by repeat' (first | exact trivial | exact rfl | refine And.intro ?_ ?_)) (by repeat' (first | exact trivial | exact rfl | refine And.intro ?_ ?_))
  obtain rfl : i = r.classes.length := by omega
  obtain ⟨e1, e2⟩ := build_ok hall
  obtain ⟨e4, e5⟩ := buildM_ok h0 e1
  rw [e4, e5]
  have hcls := clsRows_all (r := r)
  rw [← e2] at hcls
  have hMok := built_pairs h0 e1 [] 2
  have hMl : (builtM (buildC r) [] 2).classes.length = r.classes.length := by show (List.map _ _).length = _; rw [List.length_map]; exact (buildC_ok h0 e1).1
  have hroom : ∀ l ∈ (builtM (buildC r) [] 2).classes, ∀ o ∈ l, o.place.room = -1 ∨ 0 ≤ o.place.room := fun l hl o ho => by
    rw [e2] at hl
    obtain ⟨x, hx, rfl⟩ := List.mem_map.1 hl
    obtain ⟨c, hc, rfl⟩ := List.mem_map.1 hx
    obtain ⟨p, hp, rfl⟩ := List.mem_map.1 ho
    exact optsV_room hp
  have hle : PLe (.sl 1 (clsRows r r.classes.length)) (.sl 1 ((builtM (buildC r) [] 2).classes.map optsRow)) := by
    rw [hcls]; exact PLe.sl le_cls
  have hres : ∀ P : List Pair, builtM (buildC r) P 2 = ⟨(builtM (buildC r) [] 2).classes, P, [], 2⟩ := fun P => rfl
  rw [hres]
  generalize builtM (buildC r) [] 2 = M at *
  generalize clsRows r r.classes.length = CR at *
  refine forceH_in ?_
  refine ghost_seq (Γ' := [(1, .ptr 0 14 0 0), (2, .ptr 1 4 0 0), (3, vint .i64 0), (4, .ptr 2 4 0 0), (5, vint .i64 r.classes.length)]) (H' := [some ⟨37, 14, false, .box (pvs r.cells)⟩, some ⟨47, 4, false, .box (pvs zeroM)⟩, some ⟨47, 4, false, .box [.pv (.sl 1 (M.classes.map optsRow)), nilA, nilA, vint .i64 2]⟩]) (Ghost.shut_le (i := 2) (c := 0) (id := 3) rfl rfl rfl (by decide) hle fun H' hl h2 hH => back [0, 1, 2] rfl rfl (And.intro (hH 0 (by decide) (by decide)) (And.intro (hH 1 (by decide) (by decide)) (And.intro h2 trivial))) (by repeat' (first | exact trivial | exact rfl | refine And.intro ?_ ?_))) ?_
  repeat' (first | refine o1 ?_ | refine o2 ?_ | refine k1 ?_ | refine k2 ?_ | refine k3 ?_ | refine k4 ?_ | refine k8 ?_ | refine And.intro ?_ ?_ | (intro h; first | exact Bool.noConfusion h | exact nz _ h | exact nl h | (simp at h; done) | (simp at h; first | (exfalso; omega) | skip) | skip) | refine eqv_len_map ?_ | fail)
  refine loop_for (fun u : Nat => [(1, .ptr 0 14 0 0), (2, .ptr 1 4 0 0), (3, vint .i64 0), (4, .ptr 2 4 0 0), (10, vint .i64 u)]) (fun u => [some ⟨37, 14, false, .box (pvs r.cells)⟩, some ⟨47, 4, false, .box (pvs zeroM)⟩, some ⟨47, 4, false, .box [.pv (.sl 1 (M.classes.map optsRow)), slP 3 4 ((prsU r M u).map Pair.row), nilA, vint .i64 2]⟩, obP 101 4 ((prsU r M u).map Pair.row)]) (fun u => u ≤ 2) (fun u => 2 - u) 0 (by omega) ?_ ?_
  · exact back [0, 1, 2, 3] rfl rfl (by repeat' (first | exact trivial | exact rfl | refine kept_bx ren_bx1 rfl ?_ | refine And.intro ?_ ?_)) (by repeat' (first | exact trivial | exact rfl | refine And.intro ?_ ?_))
  intro u hu
  have hlu := prsU_len (r := r) (u := u) hMok.cls
  rcases Nat.lt_or_ge u 2 with hu2 | hu2
  · repeat' (first | (refine fh_ob ?_) | refine o1 ?_ | refine o2 ?_ | refine k1 ?_ | refine k2 ?_ | refine k3 ?_ | refine k4 ?_ | refine k6 ?_ | refine And.intro ?_ ?_ | (intro h; first | exact Bool.noConfusion h | exact nz _ h | exact nl h | (simp at h; done) | (simp at h; first | (exfalso; omega) | skip) | skip) | fail)
    refine loop_for (fun i : Nat => [(1, .ptr 0 14 0 0), (2, .ptr 1 4 0 0), (3, vint .i64 0), (4, .ptr 2 4 0 0), (10, vint .i64 u), (11, vint .i64 i)]) (fun i => [some ⟨37, 14, false, .box (pvs r.cells)⟩, some ⟨47, 4, false, .box (pvs zeroM)⟩, some ⟨47, 4, false, .box [.pv (.sl 1 (M.classes.map optsRow)), slP 3 4 ((prsUi r M u i).map Pair.row), nilA, vint .i64 2]⟩, obP 101 4 ((prsUi r M u i).map Pair.row)]) (fun i => i ≤ M.classes.length) (fun i => M.classes.length - i) 0 (Nat.zero_le _) ?_ ?_
    · rw [prsUi_zero]
      exact back [0, 1, 2, 3] rfl rfl (by repeat' (first | exact trivial | exact rfl | refine kept_ob rfl ?_ | refine kept_bx ren_bx1 rfl ?_ | refine And.intro ?_ ?_)) (by repeat' (first | exact trivial | exact rfl | refine And.intro ?_ ?_))
    intro i hi
    have hli := prsUi_len (r := r) (u := u) hMok.cls hi
    rcases Nat.lt_or_ge i M.classes.length with hil | hig
    · obtain ⟨x, hx⟩ := getE hil
      obtain ⟨cx, hcx⟩ := getE (l := r.classes) (i := i) (by omega)
      have hxl := hMok.opt x (List.mem_of_getElem? hx)
      repeat' (first | (refine fh_ob ?_) | refine o1 ?_ | refine o2 ?_ | refine k1 ?_ | refine k2 ?_ | refine k3 ?_ | refine k4 ?_ | refine k6 ?_ | refine And.intro ?_ ?_ | (intro h; first | exact Bool.noConfusion h | exact nz _ h | exact nl h | (simp at h; done) | (simp at h; first | (exfalso; omega) | skip) | skip) | refine eqv_len_map ?_ | refine eqv_wrap (by omega) (by omega) ?_ | fail)
      refine loop_for (fun k : Nat => [(1, .ptr 0 14 0 0), (2, .ptr 1 4 0 0), (3, vint .i64 0), (4, .ptr 2 4 0 0), (10, vint .i64 u), (11, vint .i64 i), (12, vint .i64 k)]) (fun k => [some ⟨37, 14, false, .box (pvs r.cells)⟩, some ⟨47, 4, false, .box (pvs zeroM)⟩, some ⟨47, 4, false, .box [.pv (.sl 1 (M.classes.map optsRow)), slP 3 4 ((prsUk r M u i k).map Pair.row), nilA, vint .i64 2]⟩, obP 101 4 ((prsUk r M u i k).map Pair.row)]) (fun k => i + 1 ≤ k ∧ k ≤ M.classes.length) (fun k => M.classes.length - k) (i + 1) ⟨Nat.le_refl _, hil⟩ ?_ ?_
      · rw [prsUk_begin]
        exact back [0, 1, 2, 3] rfl rfl (by repeat' (first | exact trivial | exact rfl | refine kept_ob rfl ?_ | refine kept_bx ren_bx1 rfl ?_ | refine And.intro ?_ ?_)) (by repeat' (first | exact trivial | exact rfl | refine And.intro ?_ ?_))
      intro k ⟨hk1, hk2⟩
      have hlk := prsUk_len (r := r) (u := u) hMok.cls hi hk2
      rcases Nat.lt_or_ge k M.classes.length with hkl | hkg
      · obtain ⟨y, hy⟩ := getE hkl
        obtain ⟨cy, hcy⟩ := getE (l := r.classes) (i := k) (by omega)
        have hyl := hMok.opt y (List.mem_of_getElem? hy)
        have hsl := (reg_cls h0).2
        have hpN := prsUk_none (r := r) (M := M) (u := u) (i := i) (k := k)
        have hpS := fun p => prsUk_some (r := r) (M := M) (u := u) (i := i) (k := k) (p := p)
        generalize hPR : prsUk r M u i k = PR at *
        repeat' (first | (refine fh_ob ?_) | (refine join_in (a := .region 25 _ _) (fun b : Bool => [(101, vbool b)]) (fun _ => [some ⟨37, 14, false, .box (pvs r.cells)⟩, some ⟨47, 4, false, .box (pvs zeroM)⟩, some ⟨47, 4, false, .box [.pv (.sl 1 (M.classes.map optsRow)), slP 3 4 (PR.map Pair.row), nilA, vint .i64 2]⟩, obP 101 4 (PR.map Pair.row)]) (fun b => b = pB (u = 1 ∧ ¬ sharedP cx cy)) ⟨?_, ?_⟩) | refine o1 ?_ | refine o2 ?_ | refine k1 ?_ | refine k2 ?_ | refine k3 ?_ | refine k4 ?_ | refine k6 ?_ | refine And.intro ?_ ?_ | refine o3 ?_ | refine o4 ?_ | (intro h; first | exact Bool.noConfusion h | exact nz _ h | exact nl h | (simp at h; done) | (simp at h; first | (exfalso; omega) | skip) | skip) | exact (by kernel_rfl : drawOk _ _ = true) | refine eqv_len_map ?_ | refine ⟨_, _, (by first | rfl | assumption), at_map (by assumption), ?_⟩ | (change vcFunD _ _ _ _ _; refine callD_eq rfl (by repeat' (first | trivial | refine And.intro ?_ ?_ | (show 0 + _ ≤ List.length _; simp))) ALeL.refl (c_shared cx cy (hsl cx (List.mem_of_getElem? hcx)) (hsl cy (List.mem_of_getElem? hcy))) rfl ?_) | fail)
        · exact ⟨!pB (sharedP cx cy), pB_eq (by have e1 : u = 1 := (by omega); simp [e1]), back [0, 1, 2, 3] rfl rfl (by repeat' (first | exact trivial | exact rfl | refine kept_ob rfl ?_ | refine kept_bx ren_bx1 rfl ?_ | refine And.intro ?_ ?_)) (by repeat' (first | exact trivial | exact rfl | refine And.intro ?_ ?_))⟩
        · exact ⟨false, (pB_f (by omega)).symm, back [0, 1, 2, 3] rfl rfl (by repeat' (first | exact trivial | exact rfl | refine kept_ob rfl ?_ | refine kept_bx ren_bx1 rfl ?_ | refine And.intro ?_ ?_)) (by repeat' (first | exact trivial | exact rfl | refine And.intro ?_ ?_))⟩
        refine ⟨fun q hq => ?_⟩
        by_cases hsk : u = 1 ∧ ¬ sharedP cx cy
        · rw [pB_t hsk] at hq
          subst hq
          repeat' (first | (refine fh_ob ?_) | refine o1 ?_ | refine o2 ?_ | refine k2 ?_ | refine k3 ?_ | refine k8 ?_ | refine And.intro ?_ ?_ | (intro h; first | exact Bool.noConfusion h | exact nz _ h | exact nl h | (simp at h; done) | (simp at h; first | (exfalso; omega) | skip) | skip) | refine eqv_wrap (by omega) (by omega) ?_ | fail)
          refine ⟨k + 1, ⟨by omega, by omega⟩, by omega, ?_⟩
          rw [hpN (entU_off hsk.1 hsk.2 hcx hcy)]
          exact back [0, 1, 2, 3] rfl rfl (by repeat' (first | exact trivial | exact rfl | refine kept_ob rfl ?_ | refine kept_bx ren_bx1 rfl ?_ | refine And.intro ?_ ?_)) (by repeat' (first | exact trivial | exact rfl | refine And.intro ?_ ?_))
        rw [pB_f hsk] at hq
        subst hq
        have hE0 : ∀ p q : Placed, ovP p.time q.time → (u = 1 ∨ (0 ≤ p.room ∧ p.room = q.room)) → entU r u i k p q = 1099511627776 := fun p q h1 h2 => entU_on hu2 hsk hcx hcy h1 h2
        have hE1 : ∀ p q : Placed, (p.room = -1 ∨ 0 ≤ p.room) → ¬ (ovP p.time q.time ∧ (u = 1 ∨ (0 ≤ p.room ∧ p.room = q.room))) → entU r u i k p q = 0 := fun p q h1 h2 => entU_no hu2 hsk hcx hcy h1 h2
        generalize entU r u = E at *
        repeat' (first | (refine fh_ob ?_) | refine o1 ?_ | refine o2 ?_ | refine k1 ?_ | refine k2 ?_ | refine k3 ?_ | refine k4 ?_ | refine k6 ?_ | refine And.intro ?_ ?_ | (intro h; first | exact Bool.noConfusion h | exact nz _ h | exact nl h | (simp at h; done) | (simp at h; first | (exfalso; omega) | skip) | skip) | exact (by kernel_rfl : drawOk _ _ = true) | fail)
        refine loop_for (fun a : Nat => [(1, .ptr 0 14 0 0), (2, .ptr 1 4 0 0), (3, vint .i64 0), (4, .ptr 2 4 0 0), (10, vint .i64 u), (11, vint .i64 i), (12, vint .i64 k), (13, .ptr 4 4 0 0), (14, vbool ((gr (rowV E i k x y) a).any fun n => n != 0)), (15, vint .i64 a)]) (fun a => [some ⟨37, 14, false, .box (pvs r.cells)⟩, some ⟨47, 4, false, .box (pvs zeroM)⟩, some ⟨47, 4, false, .box [.pv (.sl 1 (M.classes.map optsRow)), slP 3 4 (PR.map Pair.row), nilA, vint .i64 2]⟩, obP 101 4 (PR.map Pair.row), some ⟨101, 4, false, .box [vint .i64 i, vint .i64 k, vint .i64 u, slP 5 1 ((gr (rowV E i k x y) a).map fun n => [ei n])]⟩, obP 3 1 ((gr (rowV E i k x y) a).map fun n => [ei n])]) (fun a => a ≤ x.length) (fun a => x.length - a) 0 (Nat.zero_le _) ?_ ?_
        · exact back [0, 1, 2, 3, 4, 5] rfl rfl (by repeat' (first | exact trivial | exact rfl | refine kept_ob rfl ?_ | refine kept_bx ren_bx3 rfl ?_ | refine kept_bx ren_bx1 rfl ?_ | refine And.intro ?_ ?_)) (by repeat' (first | exact trivial | exact rfl | refine And.intro ?_ ?_))
        intro a ha
        have htl := gr_len (F := rowV E i k x y) (m := y.length) (fun i => rowV_len) a
        have htb : a * y.length ≤ 24 * 24 := Nat.mul_le_mul (by omega) hyl
        rcases Nat.lt_or_ge a x.length with hal | hag
        · obtain ⟨o, ho⟩ := getE hal
          repeat' (first | (refine fh_ob ?_) | refine o1 ?_ | refine o2 ?_ | refine k1 ?_ | refine k2 ?_ | refine k3 ?_ | refine k4 ?_ | refine k6 ?_ | refine And.intro ?_ ?_ | (intro h; first | exact Bool.noConfusion h | exact nz _ h | exact nl h | (simp at h; done) | (simp at h; first | (exfalso; omega) | skip) | skip) | refine eqv_len_map ?_ | refine ⟨_, _, (by first | rfl | assumption), at_map (by assumption), ?_⟩ | fail)
          refine loop_for (fun b : Nat => [(1, .ptr 0 14 0 0), (2, .ptr 1 4 0 0), (3, vint .i64 0), (4, .ptr 2 4 0 0), (10, vint .i64 u), (11, vint .i64 i), (12, vint .i64 k), (13, .ptr 4 4 0 0), (14, vbool ((gr (rowV E i k x y) a ++ (rowV E i k x y a).take b).any fun n => n != 0)), (15, vint .i64 a), (16, vint .i64 b)]) (fun b => [some ⟨37, 14, false, .box (pvs r.cells)⟩, some ⟨47, 4, false, .box (pvs zeroM)⟩, some ⟨47, 4, false, .box [.pv (.sl 1 (M.classes.map optsRow)), slP 3 4 (PR.map Pair.row), nilA, vint .i64 2]⟩, obP 101 4 (PR.map Pair.row), some ⟨101, 4, false, .box [vint .i64 i, vint .i64 k, vint .i64 u, slP 5 1 ((gr (rowV E i k x y) a ++ (rowV E i k x y a).take b).map fun n => [ei n])]⟩, obP 3 1 ((gr (rowV E i k x y) a ++ (rowV E i k x y a).take b).map fun n => [ei n])]) (fun b => b ≤ y.length) (fun b => y.length - b) 0 (Nat.zero_le _) ?_ ?_
          · rw [gr_none]
            exact back [0, 1, 2, 3, 4, 5] rfl rfl (by repeat' (first | exact trivial | exact rfl | refine kept_ob rfl ?_ | refine kept_bx ren_bx3 rfl ?_ | refine kept_bx ren_bx1 rfl ?_ | refine And.intro ?_ ?_)) (by repeat' (first | exact trivial | exact rfl | refine And.intro ?_ ?_))
          intro b hb
          have hrl := rowV_len (ent := E) (i := i) (k := k) (x := x) (y := y) (a := a)
          have htk : ((rowV E i k x y a).take b).length ≤ 24 := Nat.le_trans (List.length_take_le' ..) (by omega)
          have htt : (gr (rowV E i k x y) a ++ (rowV E i k x y a).take b).length ≤ 1000 := by rw [List.length_append]; omega
          rcases Nat.lt_or_ge b y.length with hbl | hbg
          · obtain ⟨q, hq⟩ := getE hbl
            have hnx := gr_next (F := rowV E i k x y) (rowV_get (ent := E) (i := i) (k := k) ho hq)
            have hro := hroom x (List.mem_of_getElem? hx) o (List.mem_of_getElem? ho)
            generalize gr (rowV E i k x y) a ++ (rowV E i k x y a).take b = T0 at *
            repeat' (first | (refine fv_sl ?_) | (refine fh_ob ?_) | ((refine o_app rfl rfl rfl rfl rfl rfl rfl rfl rfl rfl rfl (by rw [List.length_map]; omega) (by rw [List.length_map]; omega) ?_)) | refine o1 ?_ | refine o2 ?_ | refine k1 ?_ | refine k2 ?_ | refine k3 ?_ | refine k4 ?_ | refine k6 ?_ | refine And.intro ?_ ?_ | refine o3 ?_ | refine o4 ?_ | (intro h; first | exact Bool.noConfusion h | exact nz _ h | exact nl h | (simp at h; done) | (simp at h; first | (exfalso; omega) | skip) | skip) | exact (by kernel_rfl : drawOk _ _ = true) | refine eqv_len_map ?_ | refine eqv_wrap (by omega) (by omega) ?_ | refine ⟨_, _, (by first | rfl | assumption), at_map (by assumption), ?_⟩ | (change vcFun _ _ _ _ _; refine call_eq rfl (by repeat' (first | trivial | refine And.intro ?_ ?_ | (show 0 + _ ≤ List.length _; simp))) ALeL.refl (c_clear [o.place.time] q.place.time (by simp)) rfl ?_) | fail)
            all_goals
              refine ⟨b + 1, by omega, by omega, ?_⟩
              first
                | (have e := hE0 o.place q.place (ov_of (by assumption)) (by omega); rw [hnx, any_nz e, map_snoc, e, sl_app, ob_app]; exact back [0, 1, 2, 3, 4, 10] rfl rfl (by repeat' (first | exact trivial | exact rfl | refine kept_ob rfl ?_ | refine kept_bx ren_bx1 rfl ?_ | refine And.intro ?_ ?_)) (by repeat' (first | exact trivial | exact rfl | refine And.intro ?_ ?_)))
                | (have e := hE1 o.place q.place hro (fun h12 => by obtain ⟨h1, h2⟩ := h12; first | exact no_ov (by assumption) h1 | omega); rw [hnx, any_z e, map_snoc, e, sl_app, ob_app]; exact back [0, 1, 2, 3, 4, 10] rfl rfl (by repeat' (first | exact trivial | exact rfl | refine kept_ob rfl ?_ | refine kept_bx ren_bx1 rfl ?_ | refine And.intro ?_ ?_)) (by repeat' (first | exact trivial | exact rfl | refine And.intro ?_ ?_)))
          obtain rfl : b = y.length := by omega
          repeat' (first | (refine fh_ob ?_) | refine o1 ?_ | refine o2 ?_ | refine k1 ?_ | refine k2 ?_ | refine k3 ?_ | refine k8 ?_ | refine And.intro ?_ ?_ | (intro h; first | exact Bool.noConfusion h | exact nz _ h | exact nl h | (simp at h; done) | (simp at h; first | (exfalso; omega) | skip) | skip) | refine eqv_len_map ?_ | refine eqv_wrap (by omega) (by omega) ?_ | refine ⟨_, _, (by first | rfl | assumption), at_map (by assumption), ?_⟩ | fail)
          refine ⟨a + 1, by omega, by omega, ?_⟩
          rw [gr_all hrl]
          exact back [0, 1, 2, 3, 4, 5] rfl rfl (by repeat' (first | exact trivial | exact rfl | refine kept_ob rfl ?_ | refine kept_bx ren_bx3 rfl ?_ | refine kept_bx ren_bx1 rfl ?_ | refine And.intro ?_ ?_)) (by repeat' (first | exact trivial | exact rfl | refine And.intro ?_ ?_))
        obtain rfl : a = x.length := by omega
        refine forceH_in ?_
        have htl2 : (tabV E i k x y).length ≤ 1000 := by unfold tabV; omega
        have hpo : (tabV E i k x y).any (fun n => n != 0) = true → pairO M u E i k = some ⟨i, k, u, tabV E i k x y⟩ := fun h => by unfold pairO; rw [hx, hy]; exact if_pos ⟨by omega, h⟩
        have hpn : (tabV E i k x y).any (fun n => n != 0) = false → pairO M u E i k = none := fun h => by unfold pairO; rw [hx, hy]; exact if_neg fun e => by rw [h] at e; cases e.2
        change xCode _ _ _ _ _ _ [(1, .ptr 0 14 0 0), (2, .ptr 1 4 0 0), (3, vint .i64 0), (4, .ptr 2 4 0 0), (10, vint .i64 u), (11, vint .i64 i), (12, vint .i64 k), (13, .ptr 4 4 0 0), (14, vbool ((tabV E i k x y).any fun n => n != 0)), (15, vint .i64 x.length)] [some ⟨37, 14, false, .box (pvs r.cells)⟩, some ⟨47, 4, false, .box (pvs zeroM)⟩, some ⟨47, 4, false, .box [.pv (.sl 1 (M.classes.map optsRow)), slP 3 4 (PR.map Pair.row), nilA, vint .i64 2]⟩, obP 101 4 (PR.map Pair.row), some ⟨101, 4, false, .box [vint .i64 i, vint .i64 k, vint .i64 u, slP 5 1 ((tabV E i k x y).map fun n => [ei n])]⟩, obP 3 1 ((tabV E i k x y).map fun n => [ei n])]
        generalize hQ : ((tabV E i k x y).any fun n => n != 0) = Q at *
        generalize tabV E i k x y = TB at *
        refine ghost_seq (Γ' := [(1, .ptr 0 14 0 0), (2, .ptr 1 4 0 0), (3, vint .i64 0), (4, .ptr 2 4 0 0), (10, vint .i64 u), (11, vint .i64 i), (12, vint .i64 k), (13, .ptr 4 4 0 0), (14, vbool Q), (15, vint .i64 x.length)]) (H' := [some ⟨37, 14, false, .box (pvs r.cells)⟩, some ⟨47, 4, false, .box (pvs zeroM)⟩, some ⟨47, 4, false, .box [.pv (.sl 1 (M.classes.map optsRow)), slP 3 4 (PR.map Pair.row), nilA, vint .i64 2]⟩, obP 101 4 (PR.map Pair.row), some ⟨101, 4, false, .box [vint .i64 i, vint .i64 k, vint .i64 u, .pv (.sl 1 (TB.map fun n => [ei n]))]⟩])
          (Ghost.shut_sl (i := 4) (c := 3) (id := 5) rfl rfl rfl (by decide) fun H' hl h2 hH => back [0, 1, 2, 3, 4] rfl rfl (And.intro (hH 0 (by decide) (by decide)) (And.intro (hH 1 (by decide) (by decide)) (kept_bx ren_bx1 (hH 2 (by decide) (by decide)) (kept_ob (hH 3 (by decide) (by decide)) (And.intro h2 trivial))))) (by repeat' (first | exact trivial | exact rfl | refine And.intro ?_ ?_))) ?_
        repeat' (first | (refine fv_sl ?_) | (refine fh_ob ?_) | ((refine o_app rfl rfl rfl rfl rfl rfl rfl rfl rfl rfl rfl (by rw [List.length_map]; omega) (by rw [List.length_map]; omega) ?_)) | refine o1 ?_ | refine o2 ?_ | refine k1 ?_ | refine k2 ?_ | refine k3 ?_ | refine k6 ?_ | refine k8 ?_ | refine And.intro ?_ ?_ | (intro h; first | exact Bool.noConfusion h | exact nz _ h | exact nl h | (simp at h; done) | (simp at h; first | (exfalso; omega) | skip) | skip) | refine eqv_len_map ?_ | refine eqv_wrap (by omega) (by omega) ?_ | refine ⟨_, _, (by first | rfl | assumption), at_map (by assumption), ?_⟩ | fail)
        · refine ⟨k + 1, ⟨by omega, by omega⟩, by omega, ?_⟩
          rw [hpS _ (hpo (by assumption)), map_snoc, sl_app, ob_app]
          exact back [0, 1, 2, 6] rfl rfl (by repeat' (first | exact trivial | exact rfl | refine And.intro ?_ ?_)) (by repeat' (first | exact trivial | exact rfl | refine And.intro ?_ ?_))
        · refine ⟨k + 1, ⟨by omega, by omega⟩, by omega, ?_⟩
          rw [hpN (hpn (by assumption))]
          exact back [0, 1, 2, 3] rfl rfl (by repeat' (first | exact trivial | exact rfl | refine kept_ob rfl ?_ | refine kept_bx ren_bx1 rfl ?_ | refine And.intro ?_ ?_)) (by repeat' (first | exact trivial | exact rfl | refine And.intro ?_ ?_))
      obtain rfl : k = M.classes.length := by omega
      repeat' (first | (refine fh_ob ?_) | refine o1 ?_ | refine o2 ?_ | refine k1 ?_ | refine k2 ?_ | refine k3 ?_ | refine k8 ?_ | refine And.intro ?_ ?_ | (intro h; first | exact Bool.noConfusion h | exact nz _ h | exact nl h | (simp at h; done) | (simp at h; first | (exfalso; omega) | skip) | skip) | refine eqv_len_map ?_ | refine eqv_wrap (by omega) (by omega) ?_ | fail)
      refine ⟨i + 1, by omega, by omega, ?_⟩
      rw [prsUk_all]
      exact back [0, 1, 2, 3] rfl rfl (by repeat' (first | exact trivial | exact rfl | refine kept_ob rfl ?_ | refine kept_bx ren_bx1 rfl ?_ | refine And.intro ?_ ?_)) (by repeat' (first | exact trivial | exact rfl | refine And.intro ?_ ?_))
    obtain rfl : i = M.classes.length := by omega
    repeat' (first | (refine fh_ob ?_) | refine o1 ?_ | refine o2 ?_ | refine k1 ?_ | refine k2 ?_ | refine k3 ?_ | refine k8 ?_ | refine And.intro ?_ ?_ | (intro h; first | exact Bool.noConfusion h | exact nz _ h | exact nl h | (simp at h; done) | (simp at h; first | (exfalso; omega) | skip) | skip) | refine eqv_len_map ?_ | refine eqv_wrap (by omega) (by omega) ?_ | fail)
    refine ⟨u + 1, by omega, by omega, ?_⟩
    rw [prsUi_all]
    exact back [0, 1, 2, 3] rfl rfl (by repeat' (first | exact trivial | exact rfl | refine kept_ob rfl ?_ | refine kept_bx ren_bx1 rfl ?_ | refine And.intro ?_ ?_)) (by repeat' (first | exact trivial | exact rfl | refine And.intro ?_ ?_))
  obtain rfl : u = 2 := by omega
  refine forceH_in ?_
  rw [prsU_two]
  generalize builtP r M 0 1 = B at *
  refine ghost_seq (Γ' := [(1, .ptr 0 14 0 0), (2, .ptr 1 4 0 0), (3, vint .i64 0), (4, .ptr 2 4 0 0), (10, vint .i64 2)]) (H' := [some ⟨37, 14, false, .box (pvs r.cells)⟩, some ⟨47, 4, false, .box (pvs zeroM)⟩, some ⟨47, 4, false, .box [.pv (.sl 1 (M.classes.map optsRow)), .pv (.sl 4 (B.map Pair.row)), nilA, vint .i64 2]⟩])
    (Ghost.shut_sl (i := 2) (c := 1) (id := 3) rfl rfl rfl (by decide) fun H' hl h2 hH => back [0, 1, 2] rfl rfl (And.intro (hH 0 (by decide) (by decide)) (And.intro (hH 1 (by decide) (by decide)) (And.intro h2 trivial))) (by repeat' (first | exact trivial | exact rfl | refine And.intro ?_ ?_))) ?_
  repeat' (first | refine o1 ?_ | refine o2 ?_ | refine k1 ?_ | refine k2 ?_ | refine k3 ?_ | refine k7 ?_ | refine k8 ?_ | refine And.intro ?_ ?_ | (intro h; first | exact Bool.noConfusion h | exact nz _ h | exact nl h | (simp at h; done) | (simp at h; first | (exfalso; omega) | skip) | skip) | fail)
  change retOk _ _ _ _; refine ret_pure rfl (by repeat' (first | exact True.intro | refine And.intro ?_ ?_)) ?_
  exact ⟨ALe.tup ⟨ALe.agg ⟨ALe.refl, ALe.refl, ALe.pv PLe.nil, ALe.refl, trivial⟩, ALe.refl, trivial⟩⟩
theorem c_rbuild1 (r : Reg) (h : ¬ regE r = 0) : PCall Tryz.prog 12 [ag r.cells] (fun a => Leq a (.tup [ag (buildM r).cells, vint .i64 (buildX r)])) := by
  obtain ⟨e1, e2⟩ := buildM_bad h
  rw [e1, e2]
  refine acall_of tok mixed 181 rfl (fn := Tryz.f12) (c := Tryz.f12.body.getD .skip) (by kernel_rfl) (by kernel_rfl) (by kernel_rfl) rfl 0 rfl ?_
  repeat' (first | refine o1 ?_ | refine o2 ?_ | refine k1 ?_ | refine k2 ?_ | refine k3 ?_ | refine k7 ?_ | refine And.intro ?_ ?_ | (intro h; first | exact Bool.noConfusion h | exact nz _ h | exact nl h | (simp at h; done) | (simp at h; first | (exfalso; omega) | skip) | skip) | exact (by kernel_rfl : drawOk _ _ = true) | (change vcFun _ _ _ _ _; refine call_eq rfl (by repeat' (first | trivial | refine And.intro ?_ ?_ | (show 0 + _ ≤ List.length _; simp))) ALeL.refl (c_rcheckR r) rfl ?_) | fail)
  change retOk _ _ _ _; refine ret_pure rfl (by repeat' (first | exact True.intro | refine And.intro ?_ ?_)) ?_
  exact ⟨ALe.tup ⟨ALe.agg le_zeroM, ALe.refl, trivial⟩⟩
theorem c_rbuild (r : Reg) : PCall Tryz.prog 12 [ag r.cells] (fun a => a = .tup [ag (buildM r).cells, vint .i64 (buildX r)]) := by
  by_cases h : regE r = 0
  · exact (c_rbuild0 r h).weak fun r h => ⟨_, h.le, rfl⟩
  · exact (c_rbuild1 r h).weak fun r h => ⟨_, h.le, rfl⟩
end Go.Proofs.YtmaambipopgdkaaGreat.Cw
