/-
  Cw, part S: arguments made pure; objects frozen; a call of a function.
-/
import Derived.Test.YtlhakdmenohdnaaCwR
namespace Go.Cw
set_option linter.unusedVariables false
section
variable {P : Program} {T : Tab} {I J : Nat → Prop} {β : Beta} {w : World} {H : Heap}

theorem mapO_spec {α γ : Type} {f : α → Option γ} : ∀ {l : List α} {r : List γ}, mapO f l = some r → r.length = l.length ∧ (∀ (j : Nat) y, r[j]? = some y → ∃ x, l[j]? = some x ∧ f x = some y)
  | [], r, h => by simp [mapO] at h; subst h; simp
  | x :: l, r, h => by
    simp only [mapO] at h
    split at h
    · rename_i y ys hy hys
      injection h with h; subst h
      obtain ⟨h1, h2⟩ := mapO_spec hys
      refine ⟨by simp [h1], fun j z hz => ?_⟩
      cases j with
      | zero => simp at hz; subst hz; exact ⟨x, rfl, hy⟩
      | succ j => exact h2 j z (by simpa using hz)
    · cases h

theorem andL_mem {f : AV → Prop} (hp : ∀ p, f (.pv p)) : ∀ {l : List AV}, andL f l → ∀ x ∈ l, f x
  | [], _, x, hx => by simp at hx
  | y :: l, h, x, hx => by
    have key : f y ∧ andL f l := by
      cases y <;> simp only [andL] at h
      · exact ⟨hp _, h⟩
      all_goals exact h
    rcases List.mem_cons.1 hx with rfl | hx
    · exact key.1
    · exact andL_mem hp key.2 x hx

theorem okC_pv (n : Nat) (p : PV) : okC H n (.pv p) := by cases n <;> simp [okC]

theorem rowCell_m {xs : List (List AV)} {i j : Nat} {r : List AV} {x : AV} (h1 : xs[i]? = some r) (h2 : r[j]? = some x) : rowCell (.m xs) i j = some x := by
  simp [rowCell, h1, h2]

/-- A slice into an object, as a pure one. -/
theorem ms_pure (hH : HSim I β H w) {id z off len cap o' : Nat} {b : Nat × Nat} {o : AObj} (ho : H[id]? = some (some o)) (hb : β[id]? = some (some b)) (hz : o.z = z) (hJ : J b.1) (hcap : len ≤ cap) (ho' : o' = (off + b.2) * z ∨ (cap = 0 ∧ 0 < off + b.2))
    {ps : List (List PV)} (hlen : ps.length = len) (hps : ∀ (i : Nat) r', ps[i]? = some r' → r'.length = z ∧ ∀ (j : Nat) p, r'[j]? = some p → ∃ x, rowCell o.rows (off + i) j = some x ∧ ∀ v, ARel I β w x v → PRel J w p v) :
    PRel J w (.sl z ps) (.slice (some ⟨b.1, o', none⟩) len cap) := by
  subst hz
  obtain ⟨hw, _, c, hc, hcell⟩ := obj_at hH ho hb
  rw [← hlen]
  refine .sl (fun i j => (c[(off + i + b.2) * o.z + j]?).getD undef) (by omega) (fun i r hr => ?_) (fun i r j p hr hp => ?_)
  · obtain ⟨h1, h2⟩ := hps i r hr
    have hi := (List.getElem?_eq_some_iff.1 hr).1
    refine ⟨h1, _, rfl, hJ, fun j hj => ?_⟩
    obtain ⟨x, hx, _⟩ := h2 j _ (List.getElem?_eq_getElem (show j < r.length by omega))
    obtain ⟨v, hv, hone, _⟩ := hcell _ _ _ hx
    have hoo : o' = (off + b.2) * o.z := ho'.resolve_right (fun e => by omega)
    rw [add_at, cell_of_row w b.1 _ c o.ty (0, 0) hc, hv]
    simp only [Option.getD_some]
    refine ⟨?_, hone⟩
    rw [← hv, hoo, show off + i + b.2 = off + b.2 + i from by omega, Nat.add_mul (off + b.2) i, Nat.add_assoc]
  · obtain ⟨h1, h2⟩ := hps i r hr
    obtain ⟨x, hx, hrel⟩ := h2 j p hp
    obtain ⟨v, hv, _, hr'⟩ := hcell _ _ _ hx
    rw [hv]
    exact hrel v hr'

theorem prel_same (hIJ : ∀ b, I b → J b) {p : PV} {v : Value} (h : PRel I w p v) : PRel J w p v := h.mono fun b hb => ⟨rfl, hIJ b hb⟩

theorem convC_sound (hH : HSim I β H w) (hIJ : ∀ b, I b → J b) : ∀ (n : Nat) (x : AV) (p : PV) (v : Value), convC H n x = some p → okC H n x → ARel I β w x v →
    (∀ id ∈ idsC H n x, ∀ b, β[id]? = some (some b) → J b.1) → PRel J w p v
  | n, .pv q, p, v, h, _, hr, _ => by
    have : some q = some p := by cases n <;> simpa [convC] using h
    injection this with this; subst this
    cases hr with
    | pv hr => exact prel_same hIJ hr
  | 0, .agg _, p, v, h, _, _, _ => by simp [convC] at h
  | 0, .ms .., p, v, h, _, _, _ => by simp [convC] at h
  | 0, .ptr .., p, v, h, _, _, _ => by simp [convC] at h
  | 0, .fn .., p, v, h, _, _, _ => by simp [convC] at h
  | 0, .tup .., p, v, h, _, _, _ => by simp [convC] at h
  | 0, .dead, p, v, h, _, _, _ => by simp [convC] at h
  | n + 1, .agg _, p, v, h, _, _, _ => by simp [convC] at h
  | n + 1, .tup _, p, v, h, _, _, _ => by simp [convC] at h
  | n + 1, .dead, p, v, h, _, _, _ => by simp [convC] at h
  | n + 1, .ms id z off len, p, v, h, hok, hr, hids => by
    obtain ⟨b, cap, o', rfl, hb, hcap, _, ho', _⟩ := ms_inv hr
    simp only [convC] at h
    split at h
    · rename_i o ho
      simp only [okC, ho] at hok
      simp only [idsC, ho] at hids
      have hJ : J b.1 := by
        cases hfz : o.fz
        · exact hids id (by simp [hfz]) b hb
        · exact hIJ b.1 ((obj_at hH ho hb).2.1.1 hfz)
      have hw := (obj_at hH ho hb).1
      split at h
      · rename_i xs hz hrows
        have hz := Nat.eq_of_beq_eq_true hz
        injection h with h; subst h
        rw [hrows] at hok hw
        refine ms_pure hH ho hb hz hJ hcap ho' (by simp; omega) (fun i r hr => ?_)
        obtain ⟨h1, h2⟩ := sub_rows hr
        refine ⟨by rw [← hz]; exact hw _ r h1, fun j p hp => ⟨.pv p, ?_, fun v hv => ?_⟩⟩
        · rw [hrows]; simp [rowCell, h1, hp]
        · cases hv with
          | pv hv => exact prel_same hIJ hv
      · rename_i xs hz hrows
        have hz := Nat.eq_of_beq_eq_true hz
        rw [hrows] at hok hw hids
        split at h
        · rename_i ps hps
          injection h with h; subst h
          obtain ⟨hl, hm⟩ := mapO_spec hps
          refine ms_pure hH ho hb hz hJ hcap ho' (by rw [hl]; simp; omega) (fun i r' hr' => ?_)
          obtain ⟨r, hr, hrr⟩ := hm i r' hr'
          obtain ⟨h1, h2⟩ := sub_rows hr
          obtain ⟨hl2, hm2⟩ := mapO_spec hrr
          have hmem : r ∈ (xs.drop off).take len := List.mem_of_getElem? hr
          refine ⟨by rw [hl2, ← hz]; exact hw _ r h1, fun j p hp => ?_⟩
          obtain ⟨x, hx, hxp⟩ := hm2 j p hp
          have hxm : x ∈ r := List.mem_of_getElem? hx
          refine ⟨x, by rw [hrows]; exact rowCell_m h1 hx, fun v hv => ?_⟩
          exact convC_sound hH hIJ n x p v hxp (andL_mem (okC_pv n) (hok.2 r hmem) x hxm) hv (fun id' hid' => hids id' (by
            simp only [List.mem_append, List.mem_flatMap]
            exact .inr ⟨r, hmem, x, hxm, hid'⟩))
        · cases h
      · cases h
    · cases h
  | n + 1, .ptr id z row col, p, v, h, hok, hr, hids => by
    obtain ⟨b, hb, rfl⟩ := ptr_inv hr
    simp only [convC] at h
    split at h
    · rename_i o ho
      simp only [okC, ho] at hok
      simp only [idsC, ho] at hids
      have hJ : J b.1 := by
        cases hfz : o.fz
        · exact hids id (by simp [hfz]) b hb
        · exact hIJ b.1 ((obj_at hH ho hb).2.1.1 hfz)
      obtain ⟨hw, _, c, hc, hcell⟩ := obj_at hH ho hb
      split at h
      · rename_i cs hz hrows
        have hz := Nat.eq_of_beq_eq_true hz; subst hz
        rw [hrows] at hok hids
        split at h
        · rename_i ps hps
          injection h with h; subst h
          obtain ⟨hl, hm⟩ := mapO_spec hps
          have key : ∀ (j : Nat) p, ps[j]? = some p → ∃ v, c[b.2 * o.z + (col + j)]? = some v ∧ v.oneCell' = true ∧ PRel J w p v := fun j p hp => by
            obtain ⟨x, hx, hxp⟩ := hm j p hp
            have hx' : cs[col + j]? = some x := by rw [List.getElem?_drop] at hx; exact hx
            obtain ⟨v, hv, h1, hr⟩ := hcell 0 (col + j) x (by rw [hrows]; simp [rowCell, hx'])
            have hmem : x ∈ cs.drop col := List.mem_of_getElem? hx
            refine ⟨v, by simpa using hv, h1, convC_sound hH hIJ n x p v hxp (andL_mem (okC_pv n) hok x hmem) hr (fun id' hid' => hids id' ?_)⟩
            simp only [List.mem_append, List.mem_flatMap]
            exact .inr ⟨x, hmem, hid'⟩
          refine .ia (fun j => (c[b.2 * o.z + (col + j)]?).getD undef) hJ (fun j hj => ?_) (fun j p hp => ?_)
          · obtain ⟨v, hv, h1, _⟩ := key j _ (List.getElem?_eq_getElem hj)
            rw [add_at, cell_of_row w b.1 _ c o.ty (0, 0) hc, hv]
            refine ⟨?_, h1⟩
            rw [Nat.zero_add, Nat.add_assoc, hv]; rfl
          · obtain ⟨v, hv, _, hr⟩ := key j p hp
            rw [hv]; exact hr
        · cases h
      · cases h
    · cases h
  | n + 1, .fn f caps, p, v, h, hok, hr, hids => by
    simp only [convC] at h
    split at h
    · rename_i ps hps
      injection h with h; subst h
      obtain ⟨hl, hm⟩ := mapO_spec hps
      cases hr with
      | fn hvl hvs =>
        refine .fn (by rw [hvl, hl]) (fun j p hp => ?_)
        obtain ⟨x, hx, hxp⟩ := hm j p hp
        have hmem : x ∈ caps := List.mem_of_getElem? hx
        simp only [okC] at hok
        simp only [idsC] at hids
        exact convC_sound hH hIJ n x p _ hxp (andL_mem (okC_pv n) hok x hmem) (hvs j x hx) (fun id' hid' => hids id' (List.mem_flatMap.2 ⟨x, hmem, hid'⟩))
    · cases h

theorem conv1_sound (hH : HSim I β H w) (hIJ : ∀ b, I b → J b) {x y : AV} {v : Value} {β' : Beta} (h : conv1 H x = some y) (hok : ok0 H x) (hr : ARel I β w x v) (hids : ∀ id ∈ ids0 H x, ∀ b, β[id]? = some (some b) → J b.1) : ARel J β' w y v := by
  have other : ∀ {p : PV}, convC H 5 x = some p → okC H 5 x → (∀ id ∈ idsC H 5 x, ∀ b, β[id]? = some (some b) → J b.1) → ARel J β' w (.pv p) v :=
    fun h1 h2 h3 => .pv (convC_sound hH hIJ 5 x _ v h1 h2 hr h3)
  cases x with
  | agg cs =>
    simp only [conv1] at h
    split at h
    · rename_i ps hps
      injection h with h; subst h
      obtain ⟨hl, hm⟩ := mapO_spec hps
      cases hr with
      | agg hvl hvs =>
        refine .agg (by rw [hvl, pvs_length, hl]) (fun j c hc => ?_)
        obtain ⟨p, hp, rfl⟩ := pvs_get.1 hc
        obtain ⟨x, hx, hxp⟩ := hm j p hp
        have hmem : x ∈ cs := List.mem_of_getElem? hx
        simp only [ok0] at hok
        simp only [ids0] at hids
        exact .pv (convC_sound hH hIJ 5 x p _ hxp (andL_mem (okC_pv 5) hok x hmem) (hvs j x hx) (fun id' hid' => hids id' (List.mem_flatMap.2 ⟨x, hmem, hid'⟩)))
    · cases h
  | _ =>
    simp only [conv1] at h
    split at h
    · rename_i p hp
      injection h with h; subst h
      simp only [ok0] at hok
      simp only [ids0] at hids
      exact other hp hok hids
    · cases h

theorem ok0_pv (p : PV) : ok0 H (.pv p) := by simp [ok0, okC]

theorem conv_sound (hH : HSim I β H w) (hIJ : ∀ b, I b → J b) {x y : AV} {v : Value} {β' : Beta} (h : conv H x = some y) (hok : ok1 H x) (hr : ARel I β w x v) (hids : ∀ id ∈ ids1 H x, ∀ b, β[id]? = some (some b) → J b.1) : ARel J β' w y v := by
  cases x with
  | tup vs =>
    simp only [conv] at h
    split at h
    · rename_i ps hps
      injection h with h; subst h
      obtain ⟨hl, hm⟩ := mapO_spec hps
      cases hr with
      | tup hvl hvs =>
        refine .tup (by rw [hvl, hl]) (fun j c hc => ?_)
        obtain ⟨x, hx, hxp⟩ := hm j c hc
        have hmem : x ∈ vs := List.mem_of_getElem? hx
        simp only [ok1] at hok
        simp only [ids1] at hids
        exact conv1_sound hH hIJ hxp (andL_mem ok0_pv hok x hmem) (hvs j x hx) (fun id' hid' => hids id' (List.mem_flatMap.2 ⟨x, hmem, hid'⟩))
    · cases h
  | _ => exact conv1_sound hH hIJ (by simpa [conv] using h) (by simpa [ok1] using hok) hr (by simpa [ids1] using hids)

theorem ok1_pv (p : PV) : ok1 H (.pv p) := by simp [ok1, ok0, okC]

/-- What 'scal' knows needs no memory. -/
theorem scal1_sound {x : AV} {v : Value} {I' : Nat → Prop} {β' : Beta} {w' : World} (h : scal1 x = true) (hr : ARel I β w x v) : ARel I' β' w' x v := by
  unfold scal1 at h
  split at h
  · obtain rfl := val_inv hr; exact rel_val _
  · cases h

theorem scal_sound {x : AV} {v : Value} {I' : Nat → Prop} {β' : Beta} {w' : World} (h : scal x = true) (hr : ARel I β w x v) : ARel I' β' w' x v := by
  unfold scal at h
  split at h
  · obtain rfl := val_inv hr; exact rel_val _
  · cases hr with
    | agg hl hc => exact .agg hl fun j c hj => scal1_sound (List.all_eq_true.1 h c (List.mem_of_getElem? hj)) (hc j c hj)
  · cases hr with
    | tup hl hc =>
      refine .tup hl fun j c hj => ?_
      have h1 := List.all_eq_true.1 h c (List.mem_of_getElem? hj)
      have h2 := hc j c hj
      generalize _root_.Array.getD _ j undef = vj at h2 ⊢
      split at h1
      · cases h2 with
        | agg hl2 hc2 => exact .agg hl2 fun j c hj => scal1_sound (List.all_eq_true.1 h1 c (List.mem_of_getElem? hj)) (hc2 j c hj)
      · exact scal1_sound h1 h2
  · cases h

theorem idsC_live : ∀ (n : Nat) (x : AV), ∀ id ∈ idsC H n x, ∃ o, H[id]? = some (some o)
  | 0, x, id, h => by cases x <;> simp [idsC] at h
  | n + 1, .ms id' z off len, id, h => by
    simp only [idsC] at h
    split at h
    · rename_i o ho
      simp only [List.mem_append] at h
      rcases h with h | h
      · split at h
        · simp at h
        · simp at h; subst h; exact ⟨o, ho⟩
      · split at h
        · simp only [List.mem_flatMap] at h
          obtain ⟨r, _, x, _, h⟩ := h
          exact idsC_live n x id h
        · simp at h
    · simp at h
  | n + 1, .ptr id' z row col, id, h => by
    simp only [idsC] at h
    split at h
    · rename_i o ho
      simp only [List.mem_append] at h
      rcases h with h | h
      · split at h
        · simp at h
        · simp at h; subst h; exact ⟨o, ho⟩
      · split at h
        · simp only [List.mem_flatMap] at h
          obtain ⟨x, _, h⟩ := h
          exact idsC_live n x id h
        · simp at h
    · simp at h
  | n + 1, .fn f caps, id, h => by
    simp only [idsC, List.mem_flatMap] at h
    obtain ⟨x, _, h⟩ := h
    exact idsC_live n x id h
  | n + 1, .pv _, id, h => by simp [idsC] at h
  | n + 1, .agg _, id, h => by simp [idsC] at h
  | n + 1, .tup _, id, h => by simp [idsC] at h
  | n + 1, .dead, id, h => by simp [idsC] at h

theorem app_length : ∀ (u : Upd) (H : Heap), (app H u).length = H.length
  | [], H => rfl
  | (i, o) :: u, H => by simp [app, app_length u]

/-- Objects frozen. -/
theorem frz_get : ∀ (ids : List Nat) (H0 H : Heap), (∀ i : Nat, (∃ o, H0[i]? = some (some o)) → ∃ o2, H0[i]? = some (some o2) ∧ (H[i]? = some (some o2) ∨ H[i]? = some (some { o2 with fz := true }))) → ∀ (i : Nat),
    (app H (frz H0 ids))[i]? = match H0[i]? with
      | some (some o) => if i ∈ ids then some (some { o with fz := true }) else H[i]?
      | _ => H[i]?
  | [], H0, H, _, i => by simp [frz, app]; split <;> rfl
  | k :: ids, H0, H, hinv, i => by
    simp only [frz]
    split
    · rename_i o ho
      simp only [app]
      rw [frz_get ids H0 (H.set k (some { o with fz := true })) (fun i ⟨o2, ho2⟩ => by
        obtain ⟨o3, h3, h4⟩ := hinv i ⟨o2, ho2⟩
        refine ⟨o3, h3, ?_⟩
        by_cases hki : k = i
        · subst hki
          rw [ho] at h3; injection h3 with h3; injection h3 with h3; subst h3
          right
          rw [List.getElem?_set_self]
          rcases h4 with h | h <;> exact (List.getElem?_eq_some_iff.1 h).1
        · rw [List.getElem?_set_ne hki]; exact h4) i]
      by_cases hki : k = i
      · subst hki
        simp only [ho, List.mem_cons, true_or, if_true]
        split
        · rfl
        · obtain ⟨o3, h3, h4⟩ := hinv k ⟨o, ho⟩
          rw [List.getElem?_set_self]
          rcases h4 with h | h <;> exact (List.getElem?_eq_some_iff.1 h).1
      · rw [List.getElem?_set_ne hki]
        split
        · have hki2 : i ≠ k := fun e => hki e.symm
          have : (i ∈ k :: ids) ↔ i ∈ ids := by simp [hki2]
          simp only [this]
        · rfl
    · rename_i hn
      rw [frz_get ids H0 H hinv i]
      split
      · rename_i o ho
        have hki : i ≠ k := fun e => by subst e; exact hn o ho
        have : (i ∈ k :: ids) ↔ i ∈ ids := by simp [hki]
        simp only [this]
      · rfl

end
end Go.Cw
