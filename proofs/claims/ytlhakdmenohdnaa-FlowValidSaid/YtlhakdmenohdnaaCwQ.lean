/-
  Cw, part Q: store, make, literals of slices.
-/
import Derived.Test.YtlhakdmenohdnaaCwO
namespace Go.Cw
set_option linter.unusedVariables false
section
variable {P : Program} {T : Tab} {I : Nat → Prop} {β : Beta} {w : World} {H : Heap}

theorem arr_get (c : Array Value) (o : Nat) (vs : List Value) (h : o + vs.length ≤ c.size) (k : Nat) :
    ((c.toList.take o ++ vs ++ c.toList.drop (o + vs.length)).toArray)[k]? = if o ≤ k ∧ k < o + vs.length then vs[k - o]? else c[k]? := by
  have hl : (c.toList.take o).length = o := by simp; omega
  rw [List.getElem?_toArray]
  by_cases h1 : k < o
  · rw [if_neg (by omega), List.append_assoc, List.getElem?_append_left (by omega), List.getElem?_take_of_lt h1]; simp
  · by_cases h2 : k < o + vs.length
    · rw [if_pos ⟨by omega, h2⟩, List.append_assoc, List.getElem?_append_right (by omega), hl, List.getElem?_append_left (by omega)]
    · rw [if_neg (by omega), List.getElem?_append_right (by simp; omega), List.getElem?_drop]
      have e : o + vs.length + (k - (c.toList.take o ++ vs).length) = k := by rw [List.length_append, hl]; omega
      rw [e]; simp

theorem BCells.of_crel {rows : Rows} {z : Nat} {cs : List AV} {c : Array Value} (h : CRel I β w cs c) (hr : ∀ i j x, rowCell rows i j = some x → cs[i * z + j]? = some x ∧ oneCell x = true) : BCells I β w rows z c := by
  intro i j x hx
  obtain ⟨h1, h2⟩ := hr i j x hx
  obtain ⟨v, hv, hrel⟩ := h.2 _ _ h1
  exact ⟨v, hv, (one_rel h2 hrel).1, hrel⟩

/-- A store into one row of an object. -/
theorem store_sound (hH : HSim I β H w) {id row col : Nat} {b : Nat × Nat} {o : AObj} (ho : H[id]? = some (some o)) (hb : β[id]? = some (some b)) (hfz : o.fz = false) {v : Value} {new : List AV} (hn : CRel I β w new v.cells)
    (hn1 : ∀ u ∈ v.cells.toList, u.oneCell' = true) (hpos : 0 < new.length) (hcol : col + new.length ≤ o.z) {rows' : Rows} (hex : ∀ j, j < o.z → ∃ x, rowCell o.rows row j = some x) (hw : rowsWide rows' o.z)
    (hr : ∀ i j x, rowCell rows' i j = some x → (i = row ∧ col ≤ j ∧ j < col + new.length ∧ new[j - col]? = some x) ∨ (¬ (i = row ∧ col ≤ j ∧ j < col + new.length) ∧ rowCell o.rows i j = some x))
    {t : TypeId} {i0 : TypeInfo} (hi : P.info? t = some i0) (hsz : i0.size = new.length) (site : Nat) :
    ∃ w', (Instr.storeAt t (.pointer (some ⟨b.1, (row + b.2) * o.z + col, none⟩)) v).run P w = .ok () w' ∧ Left_ I β w H (.pv (.val undef)) [(id, some { o with rows := rows' })] undef w' site := by
  obtain ⟨hw0, _, c, hc, hcell⟩ := obj_at hH ho hb
  have hlen : v.cells.toList.length = new.length := by simpa using hn.1
  have hfit : (row + b.2) * o.z + col + v.cells.toList.length ≤ c.size := by
    obtain ⟨x, hx⟩ := hex (col + new.length - 1) (by omega)
    obtain ⟨u, hu, _⟩ := hcell _ _ _ hx
    have := (Array.getElem?_eq_some_iff.1 hu).1
    omega
  have hrun : (Instr.storeAt t (.pointer (some ⟨b.1, (row + b.2) * o.z + col, none⟩)) v).run P w = .ok () (w.setRow b.1 (c.toList.take ((row + b.2) * o.z + col) ++ v.cells.toList ++ c.toList.drop ((row + b.2) * o.z + col + v.cells.toList.length)).toArray) := by
    have hst := run_storeCells_at P b.1 ((row + b.2) * o.z + col) o.ty v.cells.toList 0 c w hc (by simpa using hfit) hn1
    simp only [Nat.add_zero] at hst
    have hs : (sizeOf t).run P w = .ok i0.size w := by simp [sizeOf, typeInfo, hi]
    have hne : ¬ (v.cells.size ≠ i0.size) := by rw [hsz, hn.1]; simp
    simp only [Instr.storeAt, Instr.sureAddr, storeVar, Sem.run_bind, Sem.run_pure, Result.andThen_ok, hs, if_neg hne, hst]
  refine ⟨_, hrun, ?_⟩
  have hasz : (c.toList.take ((row + b.2) * o.z + col) ++ v.cells.toList ++ c.toList.drop ((row + b.2) * o.z + col + v.cells.toList.length)).toArray.size = c.size := by
    simp only [List.size_toArray, List.length_append, List.length_take, List.length_drop, Array.length_toList] at hfit ⊢; omega
  obtain ⟨h1, h2⟩ := heap_upd (on := { o with rows := rows' }) (tgt := id) (β2 := β) (H2 := H.set id (some { o with rows := rows' })) hH ho hb rfl hfz hfz hc (setRow_heap w b.1 c _ o.ty _ hc) rfl
    hasz (fun k hk => setRow_other w b.1 k _ hk) (by simp) rfl rfl rfl (by simp [hH.len]) (fun i b h => h)
    (fun i o2 ho2 => by
      by_cases h : id = i
      · subst h
        rw [List.getElem?_set_self (List.getElem?_eq_some_iff.1 ho).1] at ho2
        injection ho2 with ho2; injection ho2 with ho2
        exact .inr ⟨rfl, ho2.symm⟩
      · rw [List.getElem?_set_ne h] at ho2
        exact .inl ⟨ho2, fun e => h e.symm⟩) hb (fun i b' h => .inl h) hw (fun i j x hx => by
      dsimp only at hx ⊢
      have hj := rowCell_lt hw hx
      rcases hr i j x hx with ⟨rfl, h3, h4, h5⟩ | ⟨h3, h4⟩
      · obtain ⟨u, hu, hrel⟩ := hn.2 _ _ h5
        refine ⟨u, ?_, hn1 u (Array.mem_toList_iff.2 (Array.mem_of_getElem? hu)), hrel⟩
        rw [arr_get c _ _ hfit, if_pos (by rw [hlen]; omega)]
        rw [show (i + b.2) * o.z + j - ((i + b.2) * o.z + col) = j - col from by omega]
        simpa using hu
      · obtain ⟨u, hu, h5, hrel⟩ := hcell i j x h4
        refine ⟨u, ?_, h5, hrel⟩
        rw [arr_get c _ _ hfit, if_neg]
        · exact hu
        · rw [hlen]
          rintro ⟨h6, h7⟩
          rcases Nat.lt_trichotomy i row with h8 | h8 | h8
          · have := Nat.mul_le_mul_right o.z (show i + b.2 + 1 ≤ row + b.2 from by omega)
            rw [Nat.succ_mul] at this; omega
          · subst h8
            exact h3 ⟨rfl, by omega, by omega⟩
          · have := Nat.mul_le_mul_right o.z (show row + b.2 + 1 ≤ i + b.2 from by omega)
            rw [Nat.succ_mul] at this; omega)
  exact ⟨I, β, h1, rel_val _, h2, fun s hs _ => hs⟩

theorem wide_set {α : Type} {xs : List (List α)} {z row col : Nat} {new r : List α} (hw : ∀ (i : Nat) r, xs[i]? = some r → r.length = z) (hr : xs[row]? = some r) (hle : col + new.length ≤ r.length) :
    ∀ (i : Nat) r', (xs.set row (splice col new r))[i]? = some r' → r'.length = z := by
  intro i r' hr'
  rw [List.getElem?_set] at hr'
  split at hr'
  · split at hr'
    · injection hr' with hr'; subst hr'
      rw [splice_length _ _ _ hle]; exact hw row r hr
    · cases hr'
  · exact hw i r' hr'

theorem vcStore_sound (hT : TabOk P T) (hH : HSim I β H w) {t : TypeId} {x v : AV} {vx vv : Value} {K : Upd → List Nat → Prop} (hx : ARel I β w x vx) (hv : ARel I β w v vv) (site : Nat) (h : vcStore T t x v H K) :
    ∃ u rd, K u rd ∧ ∃ w', (Instr.storeAt t vx vv).run P w = .ok () w' ∧ Left_ I β w H (.pv (.val undef)) u undef w' site := by
  unfold vcStore at h
  simp only [eqv_eq] at h
  split at h
  · exact h.elim
  · rename_i size bytes agg tk zero hl
    obtain ⟨i0, u, zv, hi, hu, _, _, hsz, _, _, _, _⟩ := look_spec hT hl
    split at h
    · exact h.elim
    · rename_i hck
      simp only [Bool.and_eq_true] at hck
      obtain ⟨⟨hlen, hone⟩, hpos⟩ := hck
      have hlen := Nat.eq_of_beq_eq_true hlen
      have hpos : 0 < size := by simpa [Nat.blt_eq] using hpos
      have hn := CRel.of_cells hone hv
      have hn1 := (cells_rel hone hv).2.2
      split at h
      · rename_i id z row col
        obtain ⟨b, hb, rfl⟩ := ptr_inv hx
        split at h
        · rename_i o ho
          split at h
          · exact h.elim
          · rename_i hck2
            simp only [Bool.and_eq_true, Bool.not_eq_true'] at hck2
            obtain ⟨hfz, hz⟩ := hck2
            have hz := Nat.eq_of_beq_eq_true hz; subst hz
            have hw := (obj_at hH ho hb).1
            split at h
            · rename_i cs hrows
              split at h
              · split at h
                · rename_i hble
                  have hble := Nat.le_of_ble_eq_true hble
                  rw [hrows] at hw
                  simp only [rowsWide] at hw
                  refine ⟨_, _, h, store_sound hH ho hb hfz hn hn1 (by omega) (by omega) (fun j hj => ?_) ?_ (fun i j y hy => ?_) hi (by omega) site⟩
                  · rw [hrows]; simp only [rowCell, if_true]
                    exact ⟨_, List.getElem?_eq_getElem (by omega)⟩
                  · simp only [rowsWide]; rw [splice_length _ _ _ (by omega)]; exact hw
                  · simp only [rowCell] at hy
                    split at hy
                    · rename_i hi0; subst hi0
                      rw [splice_get _ _ _ (by omega)] at hy
                      by_cases hc : col ≤ j ∧ j < col + (cellsOf v).length
                      · rw [if_pos hc] at hy; exact .inl ⟨rfl, hc.1, hc.2, hy⟩
                      · rw [if_neg hc] at hy
                        refine .inr ⟨fun e => hc e.2, ?_⟩
                        rw [hrows]; simp only [rowCell, if_true]; exact hy
                    · cases hy
                · exact h.elim
              · exact h.elim
            · rename_i xs hrows
              split at h
              · rename_i ps hps
                obtain ⟨r, hr, hle, h⟩ := h
                rw [hrows] at hw
                have hrl := hw row r hr
                have hpl : (cellsOf v).length = ps.length := by rw [purify_spec hps, pvs_length]
                refine ⟨_, _, h, store_sound hH ho hb hfz hn hn1 (by omega) (by omega) (fun j hj => ?_) ?wide (fun i j y hy => ?_) hi (by omega) site⟩
                case wide => exact wide_set hw hr (by omega)
                · rw [hrows]; simp only [rowCell, hr, Option.bind_some, List.getElem?_eq_getElem (show j < r.length by omega)]
                  exact ⟨_, rfl⟩
                · simp only [rowCell, List.getElem?_set] at hy
                  by_cases hir : row = i
                  · subst hir
                    rw [if_pos rfl, if_pos (List.getElem?_eq_some_iff.1 hr).1] at hy
                    simp only [Option.bind_some, splice_get _ _ _ (show col + ps.length ≤ r.length by omega)] at hy
                    by_cases hc : col ≤ j ∧ j < col + ps.length
                    · rw [if_pos hc] at hy
                      refine .inl ⟨rfl, hc.1, by omega, ?_⟩
                      rw [purify_spec hps]
                      simp only [Option.map_eq_some_iff] at hy
                      obtain ⟨p, hp, rfl⟩ := hy
                      exact pvs_get.2 ⟨p, hp, rfl⟩
                    · rw [if_neg hc] at hy
                      refine .inr ⟨fun e => hc ⟨e.2.1, by omega⟩, ?_⟩
                      rw [hrows]; simp only [rowCell, hr, Option.bind_some]; exact hy
                  · rw [if_neg hir] at hy
                    refine .inr ⟨fun e => hir e.1.symm, ?_⟩
                    rw [hrows]; exact hy
              · obtain ⟨r, hr, hle, h⟩ := h
                rw [hrows] at hw
                have hrl := hw row r hr
                have hrow : (xs.map pvs)[row]? = some (pvs r) := by rw [List.getElem?_map, hr]; rfl
                have hw2 : ∀ (i : Nat) r, (xs.map pvs)[i]? = some r → r.length = o.z := fun i r' hr' => by
                  rw [List.getElem?_map, Option.map_eq_some_iff] at hr'
                  obtain ⟨r0, h0, rfl⟩ := hr'
                  rw [pvs_length]; exact hw i r0 h0
                have cell : ∀ i j, ((xs.map pvs)[i]?).bind (·[j]?) = rowCell o.rows i j := fun i j => by
                  rw [hrows]; simp only [rowCell, List.getElem?_map]
                  cases xs[i]? with
                  | none => rfl
                  | some r0 => simp only [Option.map_some, Option.bind_some, pvs_map, List.getElem?_map]
                refine ⟨_, _, h, store_sound hH ho hb hfz hn hn1 (by omega) (by omega) (fun j hj => ?_) ?wide2 (fun i j y hy => ?_) hi (by omega) site⟩
                case wide2 => exact wide_set hw2 hrow (by rw [pvs_length]; omega)
                · rw [hrows]; simp only [rowCell, hr, Option.bind_some, List.getElem?_eq_getElem (show j < r.length by omega)]
                  exact ⟨_, rfl⟩
                · simp only [rowCell, List.getElem?_set] at hy
                  by_cases hir : row = i
                  · subst hir
                    rw [if_pos rfl, if_pos (List.getElem?_eq_some_iff.1 hrow).1] at hy
                    simp only [Option.bind_some, splice_get _ _ _ (show col + (cellsOf v).length ≤ (pvs r).length by rw [pvs_length]; omega)] at hy
                    by_cases hc : col ≤ j ∧ j < col + (cellsOf v).length
                    · rw [if_pos hc] at hy
                      exact .inl ⟨rfl, hc.1, by omega, hy⟩
                    · rw [if_neg hc] at hy
                      refine .inr ⟨fun e => hc ⟨e.2.1, by omega⟩, ?_⟩
                      rw [← cell, hrow]; exact hy
                  · rw [if_neg hir] at hy
                    refine .inr ⟨fun e => hir e.1.symm, ?_⟩
                    rw [← cell]; exact hy
            · rename_i xs hrows
              obtain ⟨r, hr, hle, h⟩ := h
              rw [hrows] at hw
              have hrl := hw row r hr
              refine ⟨_, _, h, store_sound hH ho hb hfz hn hn1 (by omega) (by omega) (fun j hj => ?_) ?wide (fun i j y hy => ?_) hi (by omega) site⟩
              case wide => exact wide_set hw hr (by omega)
              · rw [hrows]; simp only [rowCell, hr, Option.bind_some]
                exact ⟨_, List.getElem?_eq_getElem (show j < r.length by omega)⟩
              · simp only [rowCell, List.getElem?_set] at hy
                by_cases hir : row = i
                · subst hir
                  rw [if_pos rfl, if_pos (List.getElem?_eq_some_iff.1 hr).1] at hy
                  simp only [Option.bind_some, splice_get _ _ _ (show col + (cellsOf v).length ≤ r.length by omega)] at hy
                  by_cases hc : col ≤ j ∧ j < col + (cellsOf v).length
                  · rw [if_pos hc] at hy
                    exact .inl ⟨rfl, hc.1, hc.2, hy⟩
                  · rw [if_neg hc] at hy
                    refine .inr ⟨fun e => hc e.2, ?_⟩
                    rw [hrows]; simp only [rowCell, hr, Option.bind_some]; exact hy
                · rw [if_neg hir] at hy
                  refine .inr ⟨fun e => hir e.1.symm, ?_⟩
                  rw [hrows]; exact hy
        · exact h.elim
      · exact h.elim

theorem vcMakeSlice_sound (hT : TabOk P T) (hH : HSim I β H w) {t : TypeId} {site : Nat} (hsite : β[site]? = some none) {l c : AV} {vl vc : Value} {K : AV → Upd → List Nat → Prop} (hl : ARel I β w l vl) (hc : ARel I β w c vc)
    (h : vcMakeSlice T t site l c K) : ∃ r u rd, K r u rd ∧ ∃ v' w', (Instr.makeSlice t vl vc).run P w = .ok v' w' ∧ Left_ I β w H r u v' w' site := by
  unfold vcMakeSlice at h
  simp only [eqv_eq] at h
  split at h
  · rename_i hlk
    obtain ⟨i0, u, zv, hi, hu, _, _, _, _, _, htk, _⟩ := look_spec hT hlk
    obtain rfl := int_inv hl; obtain rfl := int_inv hc
    split at h
    · obtain rfl := tkOf_slice htk
      split at h
      · rename_i hle
        obtain ⟨ie, ue, ze, hie, _, hze, hzs, hse, hby, _, _, hzero⟩ := look_spec hT hle
        subst hse; subst hby
        obtain ⟨hone, j, k, rfl, rfl, hjk, hb, hm, h⟩ := h
        refine ⟨_, _, _, h, _, _, run_make w t _ ie ze hu hie hze .i64 .i64 j k (by omega) (by omega) ?_ (by omega), ?_⟩
        · have : ((k * ie.bytes : Nat) : Int) ≤ 281474976710656 := by omega
          rw [Int.natCast_mul, Int.mul_comm] at this; exact this
        · simp only [Int.toNat_natCast]
          refine new_slice hH hsite _ ie.size j k _ _ ?wide (fun i j' x hx => ?_) hjk (by unfold maxLen; omega) (size_madeCells _ _) (.inl rfl)
          case wide =>
            intro i r hr
            rw [List.getElem?_replicate] at hr
            split at hr
            · injection hr with hr; subst hr; rw [hzero]; simp [hzs]
            · cases hr
          · simp only [rowCell, Option.map_eq_some_iff, Option.bind_eq_some_iff, List.getElem?_replicate] at hx
            obtain ⟨p, ⟨r, hr, hp⟩, rfl⟩ := hx
            split at hr
            · rename_i hij
              injection hr with hr; subst hr
              have hp1 : oneCell (.pv p) = true := allOne_get hone (pvs_get.2 ⟨p, hp, rfl⟩)
              rw [hzero] at hp
              simp only [List.getElem?_map, Option.map_eq_some_iff] at hp
              obtain ⟨u, hu', rfl⟩ := hp
              have hj' := (List.getElem?_eq_some_iff.1 hu').1
              simp only [Array.length_toList] at hj'
              refine ⟨u, ?_, (one_rel (I := I) (β := β) (w := w) hp1 (rel_val u)).1, rel_val u⟩
              have hlt : i * ie.size + j' < k * ie.size := mul_lt_of (by omega) (by omega)
              have hmod : (i * ie.size + j') % ze.cells.size = j' := by
                rw [hzs, Nat.mul_comm, Nat.mul_add_mod]; exact Nat.mod_eq_of_lt (by omega)
              have hu2 : ze.cells[j'] = u := by
                have := (List.getElem?_eq_some_iff.1 hu').2
                simpa using this
              simp [madeCells, hlt, hmod, hj', hu2]
            · cases hr
      · exact h.elim
    · exact h.elim
  · exact h.elim

theorem rowsOf_spec {ρ : Operand → Option AV} {z : Nat} : ∀ {parts : List (Nat × Operand)} {k : Nat} {rs : List (List AV)}, rowsOf ρ z k parts = some rs →
    rs.length = parts.length ∧ (∀ (i : Nat) r, rs[i]? = some r → r.length = z ∧ allOne r = true)
  | [], k, rs, h => by simp [rowsOf] at h; subst h; simp
  | (i, x) :: l, k, rs, h => by
    simp only [rowsOf] at h
    split at h
    · rename_i v hk hv
      split at h
      · rename_i rs' hck hrec
        injection h with h; subst h
        simp only [Bool.and_eq_true] at hck
        obtain ⟨h1, h2⟩ := rowsOf_spec hrec
        refine ⟨by simp [h1], fun i r hr => ?_⟩
        cases i with
        | zero => simp at hr; subst hr; exact ⟨Nat.eq_of_beq_eq_true hck.1, hck.2⟩
        | succ i => exact h2 i r (by simpa using hr)
      · cases h
    · cases h

theorem fill_rows {ρ : Operand → Option AV} {val : Operand → Value} (hρ : ∀ x v, ρ x = some v → ARel I β w v (val x)) {z : Nat} :
    ∀ {parts : List (Nat × Operand)} {k : Nat} {rs : List (List AV)} {cs : List AV} {vs : Array Value}, rowsOf ρ z k parts = some rs → CRel I β w cs vs → (k + parts.length) * z ≤ cs.length →
      ∃ out cells, Instr.fill (fun i => some (i * z, z)) vs (parts.map fun (i, x) => (i, val x)) = some cells ∧ CRel I β w out cells ∧ out.length = cs.length ∧
        (∀ m, m < k * z → out[m]? = cs[m]?) ∧ ∀ i r j, rs[i]? = some r → j < z → out[(k + i) * z + j]? = r[j]?
  | [], k, rs, cs, vs, h, hc, hle => by
    simp [rowsOf] at h; subst h
    exact ⟨cs, vs, rfl, hc, rfl, fun _ _ => rfl, fun i r j hr => by simp at hr⟩
  | (i, x) :: l, k, rs, cs, vs, h, hc, hle => by
    simp only [rowsOf] at h
    split at h
    · rename_i v hk hv
      have hk := Nat.eq_of_beq_eq_true hk; subst hk
      split at h
      · rename_i rs' hck hrec
        injection h with h; subst h
        simp only [Bool.and_eq_true] at hck
        have hlz := Nat.eq_of_beq_eq_true hck.1
        have hcr := CRel.of_cells hck.2 (hρ x v hv)
        have hfit : i * z + (cellsOf v).length ≤ cs.length := by
          rw [hlz]
          have := Nat.mul_le_mul_right z (show i + 1 ≤ i + ((i, x) :: l).length by simp)
          rw [Nat.succ_mul] at this; omega
        have hfold := hc.fold (off := i * z) hcr hfit
        obtain ⟨out, cells, h1, h2, h3, h4, h5⟩ := fill_rows hρ (k := i + 1) hrec hfold (by
          rw [splice_length _ _ _ hfit]
          rw [show i + 1 + l.length = i + ((i, x) :: l).length from by simp; omega]; exact hle)
        refine ⟨out, cells, ?_, h2, by rw [h3, splice_length _ _ _ hfit], fun m hm => ?_, fun i' r j hr hj => ?_⟩
        · simp only [List.map_cons, Instr.fill]
          have hs1 : (val x).cells.size = z := by rw [hcr.1, hlz]
          have hs2 : i * z + z ≤ vs.size := by rw [hc.1]; omega
          rw [if_neg (by simp [hs1]; exact hs2)]
          exact h1
        · rw [h4 m (by rw [Nat.succ_mul]; omega), splice_get _ _ _ hfit, if_neg (by omega)]
        · cases i' with
          | zero =>
            simp at hr; subst hr
            rw [Nat.add_zero, h4 _ (by rw [Nat.succ_mul]; omega), splice_get _ _ _ hfit, if_pos (by omega)]
            congr 1; omega
          | succ i' =>
            have := h5 i' r j (by simpa using hr) hj
            rw [← this, show i + 1 + i' = i + (i' + 1) from by omega]
      · cases h
    · cases h

theorem vcBuildSlice_sound (hT : TabOk P T) (hH : HSim I β H w) {t : TypeId} {site : Nat} (hsite : β[site]? = some none) {ρ : Operand → Option AV} {val : Operand → Value} (hρ : ∀ x v, ρ x = some v → ARel I β w v (val x))
    {size bytes : Nat} {agg : Bool} {zero : List PV} {e : TypeId} (hl : look T t = some ⟨size, bytes, agg, .slice e, zero⟩) {esize ebytes : Nat} {eagg : Bool} {etk : TK} {ezero : List PV} (hle : look T e = some ⟨esize, ebytes, eagg, etk, ezero⟩)
    {parts : List (Nat × Operand)} {rs : List (List AV)} (hrs : rowsOf ρ esize 0 parts = some rs) {len : Nat} (hlen : rs.length = len) (hlim : len * esize ≤ 4096) (hlim2 : len ≤ 4096) :
    ∃ v' w', (Instr.buildSlice t len (parts.toArray.map fun (i, x) => (i, val x))).run P w = .ok v' w' ∧ Left_ I β w H (.ms site esize 0 len) [(site, some ⟨e, esize, false, mkRows rs⟩)] v' w' site := by
  obtain ⟨i0, u, zv, hi, hu, _, _, _, _, _, htk, _⟩ := look_spec hT hl
  obtain rfl := tkOf_slice htk
  obtain ⟨ie, ue, ze, hie, _, hze, hzs, hse, _, _, _, hzero⟩ := look_spec hT hle
  subst hse
  obtain ⟨hr1, hr2⟩ := rowsOf_spec hrs
  let base : Array Value := (Array.range (len * ie.size)).map (ze.cells[· % ze.cells.size]!)
  have hbase : CRel I β w (base.toList.map fun v => .pv (.val v)) base := by
    refine ⟨by simp, fun j c hc => ?_⟩
    simp only [List.getElem?_map, Option.map_eq_some_iff] at hc
    obtain ⟨v, hv, rfl⟩ := hc
    exact ⟨v, by simpa using hv, rel_val v⟩
  obtain ⟨out, cells, h1, h2, h3, _, h5⟩ := fill_rows hρ hrs hbase (by simp only [base, List.length_map, Array.length_toList, Array.size_map, Array.size_range]; rw [Nat.zero_add, ← hr1, hlen]; exact Nat.le_refl _)
  have hcs : cells.size = len * ie.size := by rw [h2.1, h3]; simp [base]
  refine ⟨_, _, ?_, new_slice hH hsite e ie.size len len (mkRows rs) cells (rowsWide_mk fun i r hr => (hr2 i r hr).1) (BCells.of_crel h2 fun i j x hx => ?_) (Nat.le_refl _) ?_ hcs (.inl rfl)⟩
  · have hlim' : ¬ (len * ie.size > 2 ^ 24) := by omega
    have hs : (sizeOf e).run P w = .ok ie.size w := by simp [sizeOf, typeInfo, hie]
    have hp : (parts.toArray.map fun (i, x) => (i, val x)).toList = parts.map fun (i, x) => (i, val x) := by simp
    unfold Instr.buildSlice
    simp only [Sem.run_bind, run_underlying hu, Result.andThen_ok, hs, if_neg hlim', Sem.run_pure]
    by_cases h0 : len * ie.size = 0
    · have hb : base = #[] := by simp [base, h0]
      rw [hb] at h1
      simp only [h0, if_true, Sem.run_pure, Result.andThen_ok, hp, Array.range_zero', Array.map_empty, h1]
      simp [newRow]
    · simp only [if_neg h0, Sem.run_bind, Sem.run_pure, Result.andThen_ok, zeroValue, typeInfo, hp]
      simp only [run_program, Result.andThen_ok, hie, Sem.run_pure, hze]
      have h1' : Instr.fill (fun i => some (i * ie.size, ie.size)) ((Array.range (len * ie.size)).map (ze.cells[· % ze.cells.size]!)) (parts.map fun (i, x) => (i, val x)) = some cells := h1
      simp only [h1']
      simp [newRow]
  · rw [rowCell_mk] at hx
    simp only [rowCell, Option.bind_eq_some_iff] at hx
    obtain ⟨r, hr, hx⟩ := hx
    obtain ⟨h6, h7⟩ := hr2 i r hr
    have hj := (List.getElem?_eq_some_iff.1 hx).1
    have := h5 i r j hr (by omega)
    rw [Nat.zero_add] at this
    exact ⟨this.trans hx, allOne_get h7 hx⟩
  · unfold maxLen; omega

end
end Go.Cw
