/-
  Cw, part N: store, literals of slices, make, append.
-/
import Derived.Test.YtlhakdmenohdnaaCwM
namespace Go.Cw
set_option linter.unusedVariables false
section
variable {P : Program} {T : Tab} {I : Nat → Prop} {β : Beta} {w : World} {H : Heap}

theorem mul_lt_of {i j n z : Nat} (hi : i < n) (hj : j < z) : i * z + j < n * z := by
  have := Nat.mul_le_mul_right z (show i + 1 ≤ n from hi)
  rw [Nat.succ_mul] at this; omega

theorem rowCell_lt {rows : Rows} {i j : Nat} {x : AV} {z : Nat} (hw : rowsWide rows z) (h : rowCell rows i j = some x) : j < z := by
  cases rows with
  | box cs =>
    simp only [rowCell] at h
    split at h
    · have := (List.getElem?_eq_some_iff.1 h).1
      simp only [rowsWide] at hw; omega
    · cases h
  | p xs =>
    simp only [rowCell, Option.map_eq_some_iff, Option.bind_eq_some_iff] at h
    obtain ⟨p, ⟨r, hr, hp⟩, _⟩ := h
    have := hw i r hr
    have := (List.getElem?_eq_some_iff.1 hp).1; omega
  | m xs =>
    simp only [rowCell, Option.bind_eq_some_iff] at h
    obtain ⟨r, hr, hp⟩ := h
    have := hw i r hr
    have := (List.getElem?_eq_some_iff.1 hp).1; omega

/-- The rows of an object from 'off' on. -/
theorem obj_at (hH : HSim I β H w) {id : Nat} {b : Nat × Nat} {o : AObj} (ho : H[id]? = some (some o)) (hb : β[id]? = some (some b)) :
    rowsWide o.rows o.z ∧ (o.fz = true ↔ I b.1) ∧ ∃ c, w.heap[b.1]? = some (.cells c o.ty (0, 0)) ∧ ∀ i j x, rowCell o.rows i j = some x → ∃ v, c[(i + b.2) * o.z + j]? = some v ∧ v.oneCell' = true ∧ ARel I β w x v := by
  obtain ⟨b', hb', hos⟩ := hH.obj id o ho
  rw [hb] at hb'
  injection hb' with hb'; injection hb' with hb'; subst hb'
  exact hos

theorem sub_rows {α : Type} {xs : List α} {off len i : Nat} {r : α} (h : ((xs.drop off).take len)[i]? = some r) : xs[off + i]? = some r ∧ i < len := by
  have hlt := (List.getElem?_eq_some_iff.1 h).1
  simp only [List.length_take] at hlt
  rw [List.getElem?_take_of_lt (by omega), List.getElem?_drop] at h
  exact ⟨h, by omega⟩

theorem src_of (hH : HSim I β H w) {x : AV} {v : Value} {z : Nat} {rx : Rows} {rdx : List Nat} (hx : ARel I β w x v) (hz : srcOk z x = true) (hs : srcRows H x = some (rx, rdx)) (hl : srcLen x = rowsLen rx) :
    ∃ news, Src I β w rx z (rowsLen rx) v news := by
  unfold srcRows at hs
  split at hs
  · injection hs with hs; injection hs with h1 h2; subst h1
    obtain rfl := val_inv hx
    exact ⟨[], by simp [rowsLen], .inl ⟨0, rfl, rfl⟩, by simp, fun i j x h => by simp [rowCell] at h, fun i r h => by simp at h, rfl⟩
  · rename_i z' xs
    injection hs with hs; injection hs with h1 h2; subst h1
    have hz := Nat.eq_of_beq_eq_true hz; subst hz
    obtain ⟨ad, cap, rfl, hcap, u, h1, h2⟩ := sl_inv hx
    refine ⟨flatV (fun i => (List.range z').map fun j => u i j) xs.length, ?_, ?_, ?_, ?_, ?_, rfl⟩
    · rw [flatV_length (z := z') (fun i _ => by simp)]; rfl
    · cases ad with
      | none =>
        left
        refine ⟨cap, ?_, ?_⟩
        · cases xs with
          | nil => rfl
          | cons r l => obtain ⟨_, a, ha, _⟩ := h1 0 r rfl; cases ha
        · cases xs with
          | nil => rfl
          | cons r l => obtain ⟨_, a, ha, _⟩ := h1 0 r rfl; cases ha
      | some a =>
        right
        refine ⟨a, cap, rfl, fun k y hk => ?_⟩
        have hlt := (List.getElem?_eq_some_iff.1 hk).1
        rw [flatV_length (z := z') (fun i _ => by simp)] at hlt
        have hz0 : 0 < z' := by rcases Nat.eq_zero_or_pos z' with h | h; (subst h; simp at hlt); exact h
        have hi : k / z' < xs.length := by rw [Nat.div_lt_iff_lt_mul hz0]; exact hlt
        have hj : k % z' < z' := Nat.mod_lt _ hz0
        have hk2 : k = k / z' * z' + k % z' := by rw [Nat.mul_comm]; exact (Nat.div_add_mod k z').symm
        rw [hk2, flatV_get (z := z') (fun i _ => by simp) _ _ hi hj] at hk
        simp [hj] at hk
        obtain ⟨hlr, a', ha', _, hc⟩ := h1 (k / z') _ (List.getElem?_eq_getElem hi)
        injection ha' with ha'; subst ha'
        rw [hk2, (hc _ hj).1, hk]
    · intro y hy
      simp only [flatV, List.mem_flatMap, List.mem_map, List.mem_range] at hy
      obtain ⟨i, hi, j, hj, rfl⟩ := hy
      obtain ⟨_, a, _, _, hc⟩ := h1 i _ (List.getElem?_eq_getElem hi)
      exact (hc j hj).2
    · intro i j x hx
      simp only [rowCell, Option.map_eq_some_iff, Option.bind_eq_some_iff] at hx
      obtain ⟨p, ⟨r, hr, hp⟩, rfl⟩ := hx
      obtain ⟨hlr, a, _, _, hc⟩ := h1 i r hr
      have hi := (List.getElem?_eq_some_iff.1 hr).1
      have hj : j < z' := by have := (List.getElem?_eq_some_iff.1 hp).1; omega
      refine ⟨u i j, ?_, (hc j hj).2, .pv (h2 i r j p hr hp)⟩
      rw [flatV_get (z := z') (fun i _ => by simp) _ _ hi hj]
      simp [hj]
    · intro i r hr
      exact (h1 i r hr).1
  · rename_i id z' off len
    have hz := Nat.eq_of_beq_eq_true hz; subst hz
    obtain ⟨b, cap, o', rfl, hbl, hcap, hm, ho', t, hsh⟩ := ms_inv hx
    split at hs
    · rename_i o ho
      have key : ∀ (xs : List (List AV)), (∀ i j, rowCell o.rows i j = rowCell (.m xs) i j) → rowsWide (.m xs) o.z → o.z = z' → (∀ i j, rowCell rx i j = rowCell (.m ((xs.drop off).take len)) i j) →
          rowsLen rx = ((xs.drop off).take len).length → rowsWide rx z' → ∃ news, Src I β w rx z' (rowsLen rx) (.slice (some ⟨b.1, o', none⟩) len cap) news := by
        intro xs hxs hwide hzz hrx hrl hrw
        subst hzz
        obtain ⟨hw, hfz, c, hc, hcell⟩ := obj_at hH ho hbl
        have hlen : len = ((xs.drop off).take len).length := by rw [← hrl, ← hl]; rfl
        have hle : off + len ≤ xs.length ∨ len = 0 := by simp at hlen; omega
        refine ⟨flatV (fun i => (List.range o.z).map fun j => (c[(off + i + b.2) * o.z + j]?).getD undef) len, ?_, ?_, ?_, ?_, hrw, rfl⟩
        · rw [flatV_length (z := o.z) (fun i _ => by simp), hrl, ← hlen]
        · right
          refine ⟨⟨b.1, o', none⟩, cap, by rw [hrl, ← hlen], fun k y hk => ?_⟩
          have hlt := (List.getElem?_eq_some_iff.1 hk).1
          rw [flatV_length (z := o.z) (fun i _ => by simp)] at hlt
          have hz0 : 0 < o.z := by rcases Nat.eq_zero_or_pos o.z with h | h; (rw [h] at hlt; simp at hlt); exact h
          have hi : k / o.z < len := by rw [Nat.div_lt_iff_lt_mul hz0]; exact hlt
          have hj : k % o.z < o.z := Nat.mod_lt _ hz0
          have hk2 : k = k / o.z * o.z + k % o.z := by rw [Nat.mul_comm]; exact (Nat.div_add_mod k o.z).symm
          have hoo : o' = (off + b.2) * o.z := ho'.resolve_right (fun e => by
            have hl0 : len = 0 := Nat.le_zero.1 (e.1 ▸ hcap)
            rw [hl0] at hi
            exact Nat.not_lt_zero _ hi)
          generalize k / o.z = q at *
          generalize k % o.z = m at *
          have hrow : xs[off + q]? = some (xs[off + q]'(by omega)) := List.getElem?_eq_getElem _
          have hwr := hwide _ _ hrow
          have hcl : rowCell o.rows (off + q) m = some ((xs[off + q]'(by omega))[m]'(by omega)) := by
            rw [hxs]; simp only [rowCell, hrow, Option.bind_some]; exact List.getElem?_eq_getElem _
          obtain ⟨v, hv, _, _⟩ := hcell _ _ _ hcl
          rw [hk2, flatV_get (z := o.z) (fun i _ => by simp) _ _ hi hj] at hk
          simp only [List.getElem?_map, List.getElem?_range hj, Option.map_some, hv, Option.getD_some, Option.some.injEq] at hk
          subst hk
          rw [add_at, cell_of_row w b.1 _ c o.ty (0, 0) hc, hoo, ← hv]
          congr 1
          rw [show off + q + b.2 = off + b.2 + q from by omega, Nat.add_mul (off + b.2) q, Nat.add_assoc, ← hk2]
        · intro y hy
          simp only [flatV, List.mem_flatMap, List.mem_map, List.mem_range] at hy
          obtain ⟨i, hi, j, hj, rfl⟩ := hy
          have hrow : xs[off + i]? = some (xs[off + i]'(by omega)) := List.getElem?_eq_getElem _
          have hwr := hwide _ _ hrow
          have hcl : rowCell o.rows (off + i) j = some ((xs[off + i]'(by omega))[j]'(by omega)) := by
            rw [hxs]; simp only [rowCell, hrow, Option.bind_some]; exact List.getElem?_eq_getElem _
          obtain ⟨v, hv, h1, _⟩ := hcell _ _ _ hcl
          rw [hv]; exact h1
        · intro i j x hx
          have hj := rowCell_lt hrw hx
          rw [hrx] at hx
          simp only [rowCell, Option.bind_eq_some_iff] at hx
          obtain ⟨r, hr, hp⟩ := hx
          obtain ⟨hr', hi⟩ := sub_rows hr
          have hcl : rowCell o.rows (off + i) j = some x := by rw [hxs]; simp only [rowCell, hr', Option.bind_some]; exact hp
          obtain ⟨v, hv, h1, hrel⟩ := hcell _ _ _ hcl
          refine ⟨v, ?_, h1, hrel⟩
          rw [flatV_get (z := o.z) (fun i _ => by simp) _ _ hi hj]
          simp [hj, hv]
      have hw := (obj_at hH ho hbl).1
      split at hs
      · rename_i xs hzz hrows
        injection hs with hs; injection hs with h1 h2; subst h1
        have hzz := Nat.eq_of_beq_eq_true hzz
        rw [hrows] at hw
        refine key (xs.map pvs) (fun i j => by rw [hrows, rowCell_p]) (fun i r hr => ?_) hzz (fun i j => by rw [rowCell_p, List.map_take, List.map_drop]) (by simp [rowsLen]) (fun i r hr => ?_)
        · simp only [List.getElem?_map, Option.map_eq_some_iff] at hr
          obtain ⟨r', hr', rfl⟩ := hr
          rw [pvs_length]; exact hw i r' hr'
        · rw [← hzz]; exact hw _ r (sub_rows hr).1
      · rename_i xs hzz hrows
        injection hs with hs; injection hs with h1 h2; subst h1
        have hzz := Nat.eq_of_beq_eq_true hzz
        rw [hrows] at hw
        refine key xs (fun i j => by rw [hrows]) hw hzz (fun i j => rfl) rfl (fun i r hr => ?_)
        rw [← hzz]; exact hw _ r (sub_rows hr).1
      · cases hs
    · cases hs
  · cases hs

theorem rowsLen_cat {a b c : Rows} (h : catRows a b = some c) : rowsLen c = rowsLen a + rowsLen b := by
  unfold catRows at h
  split at h <;> first | (injection h with h; subst h; simp [rowsLen]) | cases h

theorem rowsWide_cat {a b c : Rows} {z : Nat} (h : catRows a b = some c) (ha : rowsWide a z) (hb : rowsWide b z) : rowsWide c z := by
  unfold catRows at h
  split at h
  · injection h with h; subst h
    intro i r hr
    rw [List.getElem?_append] at hr
    split at hr
    · exact ha i r hr
    · exact hb _ r hr
  · injection h with h; subst h
    intro i r hr
    rw [List.getElem?_append] at hr
    split at hr
    · exact ha i r hr
    · exact hb _ r hr
  · injection h with h; subst h
    intro i r hr
    rw [List.getElem?_append] at hr
    split at hr
    · simp only [List.getElem?_map, Option.map_eq_some_iff] at hr
      obtain ⟨r', hr', rfl⟩ := hr
      rw [pvs_length]; exact ha i r' hr'
    · exact hb _ r hr
  · injection h with h; subst h
    intro i r hr
    rw [List.getElem?_append] at hr
    split at hr
    · exact ha i r hr
    · simp only [List.getElem?_map, Option.map_eq_some_iff] at hr
      obtain ⟨r', hr', rfl⟩ := hr
      rw [pvs_length]; exact hb _ r' hr'
  · cases h

theorem rowCell_cat {a b c : Rows} (h : catRows a b = some c) (i j : Nat) : rowCell c i j = if i < rowsLen a then rowCell a i j else rowCell b (i - rowsLen a) j := by
  unfold catRows at h
  split at h
  · rename_i a b
    injection h with h; subst h
    simp only [rowCell, rowsLen, List.getElem?_append]
    by_cases hi : i < a.length <;> simp only [hi, if_true, if_false]
  · rename_i a b
    injection h with h; subst h
    simp only [rowCell, rowsLen, List.getElem?_append]
    by_cases hi : i < a.length <;> simp only [hi, if_true, if_false]
  · rename_i a b
    injection h with h; subst h
    rw [rowCell_p a]
    simp only [rowCell, rowsLen, List.getElem?_append, List.length_map]
    by_cases hi : i < a.length <;> simp only [hi, if_true, if_false]
  · rename_i a b
    injection h with h; subst h
    rw [rowCell_p]
    simp only [rowCell, rowsLen, List.getElem?_append]
    by_cases hi : i < a.length <;> simp only [hi, if_true, if_false]
  · cases h

/-- The cells behind an append. -/
theorem cat_cells {a b c : Rows} {z n : Nat} (h : catRows a b = some c) (hwa : rowsWide a z) (hwb : rowsWide b z) (hn : n = rowsLen a) {old new : List Value} (hol : old.length = n * z)
    (hold : ∀ i j x, rowCell a i j = some x → ∃ v, old[i * z + j]? = some v ∧ v.oneCell' = true ∧ ARel I β w x v) (hnew : ∀ i j x, rowCell b i j = some x → ∃ v, new[i * z + j]? = some v ∧ v.oneCell' = true ∧ ARel I β w x v)
    {arr : Array Value} (harr : ∀ (k : Nat) v, (old ++ new)[k]? = some v → arr[k]? = some v) : BCells I β w c z arr := by
  intro i j x hx
  have hj := rowCell_lt (rowsWide_cat h hwa hwb) hx
  rw [rowCell_cat h] at hx
  by_cases hi : i < rowsLen a
  · rw [if_pos hi] at hx
    obtain ⟨v, hv, h1, hr⟩ := hold i j x hx
    refine ⟨v, harr _ _ ?_, h1, hr⟩
    rw [List.getElem?_append_left (by rw [hol, hn]; exact mul_lt_of hi hj)]
    exact hv
  · rw [if_neg hi] at hx
    obtain ⟨v, hv, h1, hr⟩ := hnew _ j x hx
    refine ⟨v, harr _ _ ?_, h1, hr⟩
    have e : i * z = n * z + (i - rowsLen a) * z := by rw [← Nat.add_mul]; congr 1; omega
    rw [List.getElem?_append_right (by rw [hol, e]; omega), hol, ← hv]
    congr 1
    omega

end
end Go.Cw
