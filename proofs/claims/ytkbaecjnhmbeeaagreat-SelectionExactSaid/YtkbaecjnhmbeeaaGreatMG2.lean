/-
  Part 2 of the proof (CwQ, CwQA, CwR, CwS, CwU, CwV, CwX, CwW, CwY): what later parts use. No conditions.
-/
import Derived.MapKept
import Derived.WideKeyRuns
import Derived.Laws.BytesString
import Derived.LoopN
import Derived.Scope
import Derived.Test.YtkbaecjnhmbeeaaGreatMG1
/-
  Cw, part Q: store, make, literals of slices.
-/
namespace Go.Cw
set_option linter.unusedVariables false
section
variable {P : Program} {T : Tab} {I : Nat → Prop} {β : Beta} {w : World} {H : Heap}
theorem arr_get (c : Array Value) (o : Nat) (vs : List Value) (h : o + vs.length ≤ c.size) (k : Nat) :
    ((c.toList.take o ++ vs ++ c.toList.drop (o + vs.length)).toArray)[k]? = if o ≤ k ∧ k < o + vs.length then vs[k - o]? else c[k]? := by
  have hl : (c.toList.take o).length = o := by simp; omega
  rw [List.getElem?_toArray]
  by_cases h1 : k < o
  · rw [if_neg (by omega), List.append_assoc, List.getElem?_append_left (by omega), List.getElem?_take_of_lt h1]; simp
  · by_cases h2 : k < o + vs.length
    · rw [if_pos ⟨by omega, h2⟩, List.append_assoc, List.getElem?_append_right (by omega), hl, List.getElem?_append_left (by omega)]
    · rw [if_neg (by omega), List.getElem?_append_right (by simp; omega), List.getElem?_drop]
      have e : o + vs.length + (k - (c.toList.take o ++ vs).length) = k := by rw [List.length_append, hl]; omega
      rw [e]; simp
theorem BCells.of_crel {rows : Rows} {z : Nat} {cs : List AV} {c : Array Value} (h : CRel I β w cs c) (hr : ∀ i j x, rowCell rows i j = some x → cs[i * z + j]? = some x ∧ oneCell x = true) : BCells I β w rows z c := by
  intro i j x hx
  obtain ⟨h1, h2⟩ := hr i j x hx
  obtain ⟨v, hv, hrel⟩ := h.2 _ _ h1
  exact ⟨v, hv, (one_rel h2 hrel).1, hrel⟩
theorem store_sound (hH : HSim I β H w) {id row col : Nat} {b : Nat × Nat} {o : AObj} (ho : H[id]? = some (some o)) (hb : β[id]? = some (some b)) (hfz : o.fz = false) {v : Value} {new : List AV} (hn : CRel I β w new v.cells)
    (hn1 : ∀ u ∈ v.cells.toList, u.oneCell' = true) (hpos : 0 < new.length) (hcol : col + new.length ≤ o.z) (hmp : isMp o.rows = false) {rows' : Rows} (hmp' : isMp rows' = false) (hex : ∀ j, j < o.z → ∃ x, rowCell o.rows row j = some x) (hw : rowsWide rows' o.z)
    (hr : ∀ i j x, rowCell rows' i j = some x → (i = row ∧ col ≤ j ∧ j < col + new.length ∧ new[j - col]? = some x) ∨ (¬ (i = row ∧ col ≤ j ∧ j < col + new.length) ∧ rowCell o.rows i j = some x))
    {t : TypeId} {i0 : TypeInfo} (hi : P.info? t = some i0) (hsz : i0.size = new.length) (site : Nat) :
    ∃ w', (Instr.storeAt t (.pointer (some ⟨b.1, (row + b.2) * o.z + col, none⟩)) v).run P w = .ok () w' ∧ Left_ I β w H (.pv (.val undef)) [(id, some { o with rows := rows' })] undef w' site := by
  obtain ⟨hw0, _, c, hc, hcell⟩ := obj_at hH ho hb hmp
  have hlen : v.cells.toList.length = new.length := by simpa using hn.1
  have hfit : (row + b.2) * o.z + col + v.cells.toList.length ≤ c.size := by
    obtain ⟨x, hx⟩ := hex (col + new.length - 1) (by omega)
    obtain ⟨u, hu, _⟩ := hcell _ _ _ hx
    have := (Array.getElem?_eq_some_iff.1 hu).1
    omega
  have hrun : (Instr.storeAt t (.pointer (some ⟨b.1, (row + b.2) * o.z + col, none⟩)) v).run P w = .ok () (w.setRow b.1 (c.toList.take ((row + b.2) * o.z + col) ++ v.cells.toList ++ c.toList.drop ((row + b.2) * o.z + col + v.cells.toList.length)).toArray) := by
    have hst := run_storeCells_at P b.1 ((row + b.2) * o.z + col) o.ty v.cells.toList 0 c w hc (by simpa using hfit) hn1
    simp only [Nat.add_zero] at hst
    have hs : (sizeOf t).run P w = .ok i0.size w := by simp [sizeOf, typeInfo, hi]
    have hne : ¬ (v.cells.size ≠ i0.size) := by rw [hsz, hn.1]; simp
    simp only [Instr.storeAt, Instr.sureAddr, storeVar, Sem.run_bind, Sem.run_pure, Result.andThen_ok, hs, if_neg hne, hst]
  refine ⟨_, hrun, ?_⟩
  have hasz : (c.toList.take ((row + b.2) * o.z + col) ++ v.cells.toList ++ c.toList.drop ((row + b.2) * o.z + col + v.cells.toList.length)).toArray.size = c.size := by
    simp only [List.size_toArray, List.length_append, List.length_take, List.length_drop, Array.length_toList] at hfit ⊢; omega
  have hset := setRow_heap w b.1 c (c.toList.take ((row + b.2) * o.z + col) ++ v.cells.toList ++ c.toList.drop ((row + b.2) * o.z + col + v.cells.toList.length)).toArray o.ty (0, 0) hc
  obtain ⟨h1, h2⟩ := heap_upd (on := { o with rows := rows' }) (arr := (c.toList.take ((row + b.2) * o.z + col) ++ v.cells.toList ++ c.toList.drop ((row + b.2) * o.z + col + v.cells.toList.length)).toArray) (tgt := id) (β2 := β) (H2 := H.set id (some { o with rows := rows' })) hH ho hb rfl hfz hfz (by rw [memOf_cells hmp']; exact hset)
    (fun t n hs => by rw [shape_of_heap hc] at hs; rw [shape_of_heap hset, hasz]; exact hs) (fun k hk => setRow_other w b.1 k _ hk) (by simp) rfl rfl rfl (Nat.le_refl _) (by simp [hH.len]) (fun i b h => h)
    (fun i o2 ho2 => by
      by_cases h : id = i
      · subst h
        rw [List.getElem?_set_self (List.getElem?_eq_some_iff.1 ho).1] at ho2
        injection ho2 with ho2; injection ho2 with ho2
        exact .inr ⟨rfl, ho2.symm⟩
      · rw [List.getElem?_set_ne h] at ho2
        exact .inl ⟨ho2, fun e => h e.symm⟩) hb (fun i b' h => .inl h) hw (fun i j x hx => by
      dsimp only at hx ⊢
      have hj := rowCell_lt hw hx
      rcases hr i j x hx with ⟨rfl, h3, h4, h5⟩ | ⟨h3, h4⟩
      · obtain ⟨u, hu, hrel⟩ := hn.2 _ _ h5
        refine ⟨u, ?_, hn1 u (Array.mem_toList_iff.2 (Array.mem_of_getElem? hu)), hrel⟩
        rw [arr_get c _ _ hfit, if_pos (by rw [hlen]; omega)]
        rw [show (i + b.2) * o.z + j - ((i + b.2) * o.z + col) = j - col from by omega]
        simpa using hu
      · obtain ⟨u, hu, h5, hrel⟩ := hcell i j x h4
        refine ⟨u, ?_, h5, hrel⟩
        rw [arr_get c _ _ hfit, if_neg]
        · exact hu
        · rw [hlen]
          rintro ⟨h6, h7⟩
          rcases Nat.lt_trichotomy i row with h8 | h8 | h8
          · have := Nat.mul_le_mul_right o.z (show i + b.2 + 1 ≤ row + b.2 from by omega)
            rw [Nat.succ_mul] at this; omega
          · subst h8
            exact h3 ⟨rfl, by omega, by omega⟩
          · have := Nat.mul_le_mul_right o.z (show row + b.2 + 1 ≤ i + b.2 from by omega)
            rw [Nat.succ_mul] at this; omega)
  exact ⟨I, β, h1, rel_val _, h2, fun s hs _ => hs⟩
theorem wide_set {α : Type} {xs : List (List α)} {z row col : Nat} {new r : List α} (hw : ∀ (i : Nat) r, xs[i]? = some r → r.length = z) (hr : xs[row]? = some r) (hle : col + new.length ≤ r.length) :
    ∀ (i : Nat) r', (xs.set row (splice col new r))[i]? = some r' → r'.length = z := by
  intro i r' hr'
  rw [List.getElem?_set] at hr'
  split at hr'
  · split at hr'
    · injection hr' with hr'; subst hr'
      rw [splice_length _ _ _ hle]; exact hw row r hr
    · cases hr'
  · exact hw i r' hr'
theorem vcStore_sound (hT : TabOk P T) (hH : HSim I β H w) {t : TypeId} {x v : AV} {vx vv : Value} {K : Upd → List Nat → Prop} (hx : ARel I β w x vx) (hv : ARel I β w v vv) (site : Nat) (h : vcStore T t x v H K) :
    ∃ u rd, K u rd ∧ ∃ w', (Instr.storeAt t vx vv).run P w = .ok () w' ∧ Left_ I β w H (.pv (.val undef)) u undef w' site := by
  unfold vcStore at h
  simp only [eqv_eq] at h
  split at h
  · exact h.elim
  · rename_i size bytes agg tk zero hl
    obtain ⟨i0, u, zv, hi, hu, _, _, hsz, _, _, _, _⟩ := look_spec hT hl
    split at h
    · exact h.elim
    · rename_i hck
      simp only [Bool.and_eq_true] at hck
      obtain ⟨⟨hlen, hone⟩, hpos⟩ := hck
      have hlen := Nat.eq_of_beq_eq_true hlen
      have hpos : 0 < size := by simpa [Nat.blt_eq] using hpos
      have hn := CRel.of_cells hone hv
      have hn1 := (cells_rel hone hv).2.2
      split at h
      · rename_i id z row col
        obtain ⟨b, hb, rfl⟩ := ptr_inv hx
        split at h
        · rename_i o ho
          split at h
          · exact h.elim
          · rename_i hck2
            simp only [Bool.and_eq_true, Bool.not_eq_true'] at hck2
            obtain ⟨hfz, hz⟩ := hck2
            have hz := Nat.eq_of_beq_eq_true hz; subst hz
            have hw := (obj_at0 hH ho hb).1
            split at h
            · rename_i cs hrows
              split at h
              · split at h
                · rename_i hble
                  have hble := Nat.le_of_ble_eq_true hble
                  rw [hrows] at hw
                  simp only [rowsWide] at hw
                  refine ⟨_, _, h, store_sound hH ho hb hfz hn hn1 (by omega) (by omega) (by rw [hrows]; rfl) rfl (fun j hj => ?_) ?_ (fun i j y hy => ?_) hi (by omega) site⟩
                  · rw [hrows]; simp only [rowCell, if_true]
                    exact ⟨_, List.getElem?_eq_getElem (by omega)⟩
                  · simp only [rowsWide]; rw [splice_length _ _ _ (by omega)]; exact hw
                  · simp only [rowCell] at hy
                    split at hy
                    · rename_i hi0; subst hi0
                      rw [splice_get _ _ _ (by omega)] at hy
                      by_cases hc : col ≤ j ∧ j < col + (cellsOf v).length
                      · rw [if_pos hc] at hy; exact .inl ⟨rfl, hc.1, hc.2, hy⟩
                      · rw [if_neg hc] at hy
                        refine .inr ⟨fun e => hc e.2, ?_⟩
                        rw [hrows]; simp only [rowCell, if_true]; exact hy
                    · cases hy
                · exact h.elim
              · exact h.elim
            · rename_i xs hrows
              split at h
              · rename_i ps hps
                obtain ⟨r, hr, hle, h⟩ := h
                rw [hrows] at hw
                have hrl := hw row r hr
                have hpl : (cellsOf v).length = ps.length := by rw [purify_spec hps, pvs_length]
                refine ⟨_, _, h, store_sound hH ho hb hfz hn hn1 (by omega) (by omega) (by rw [hrows]; rfl) rfl (fun j hj => ?_) ?wide (fun i j y hy => ?_) hi (by omega) site⟩
                case wide => exact wide_set hw hr (by omega)
                · rw [hrows]; simp only [rowCell, hr, Option.bind_some, List.getElem?_eq_getElem (show j < r.length by omega)]
                  exact ⟨_, rfl⟩
                · simp only [rowCell, List.getElem?_set] at hy
                  by_cases hir : row = i
                  · subst hir
                    rw [if_pos rfl, if_pos (List.getElem?_eq_some_iff.1 hr).1] at hy
                    simp only [Option.bind_some, splice_get _ _ _ (show col + ps.length ≤ r.length by omega)] at hy
                    by_cases hc : col ≤ j ∧ j < col + ps.length
                    · rw [if_pos hc] at hy
                      refine .inl ⟨rfl, hc.1, by omega, ?_⟩
                      rw [purify_spec hps]
                      simp only [Option.map_eq_some_iff] at hy
                      obtain ⟨p, hp, rfl⟩ := hy
                      exact pvs_get.2 ⟨p, hp, rfl⟩
                    · rw [if_neg hc] at hy
                      refine .inr ⟨fun e => hc ⟨e.2.1, by omega⟩, ?_⟩
                      rw [hrows]; simp only [rowCell, hr, Option.bind_some]; exact hy
                  · rw [if_neg hir] at hy
                    refine .inr ⟨fun e => hir e.1.symm, ?_⟩
                    rw [hrows]; exact hy
              · obtain ⟨r, hr, hle, h⟩ := h
                rw [hrows] at hw
                have hrl := hw row r hr
                have hrow : (xs.map pvs)[row]? = some (pvs r) := by rw [List.getElem?_map, hr]; rfl
                have hw2 : ∀ (i : Nat) r, (xs.map pvs)[i]? = some r → r.length = o.z := fun i r' hr' => by
                  rw [List.getElem?_map, Option.map_eq_some_iff] at hr'
                  obtain ⟨r0, h0, rfl⟩ := hr'
                  rw [pvs_length]; exact hw i r0 h0
                have cell : ∀ i j, ((xs.map pvs)[i]?).bind (·[j]?) = rowCell o.rows i j := fun i j => by
                  rw [hrows]; simp only [rowCell, List.getElem?_map]
                  cases xs[i]? with
                  | none => rfl
                  | some r0 => simp only [Option.map_some, Option.bind_some, pvs_map, List.getElem?_map]
                refine ⟨_, _, h, store_sound hH ho hb hfz hn hn1 (by omega) (by omega) (by rw [hrows]; rfl) rfl (fun j hj => ?_) ?wide2 (fun i j y hy => ?_) hi (by omega) site⟩
                case wide2 => exact wide_set hw2 hrow (by rw [pvs_length]; omega)
                · rw [hrows]; simp only [rowCell, hr, Option.bind_some, List.getElem?_eq_getElem (show j < r.length by omega)]
                  exact ⟨_, rfl⟩
                · simp only [rowCell, List.getElem?_set] at hy
                  by_cases hir : row = i
                  · subst hir
                    rw [if_pos rfl, if_pos (List.getElem?_eq_some_iff.1 hrow).1] at hy
                    simp only [Option.bind_some, splice_get _ _ _ (show col + (cellsOf v).length ≤ (pvs r).length by rw [pvs_length]; omega)] at hy
                    by_cases hc : col ≤ j ∧ j < col + (cellsOf v).length
                    · rw [if_pos hc] at hy
                      exact .inl ⟨rfl, hc.1, by omega, hy⟩
                    · rw [if_neg hc] at hy
                      refine .inr ⟨fun e => hc ⟨e.2.1, by omega⟩, ?_⟩
                      rw [← cell, hrow]; exact hy
                  · rw [if_neg hir] at hy
                    refine .inr ⟨fun e => hir e.1.symm, ?_⟩
                    rw [← cell]; exact hy
            · rename_i xs hrows
              obtain ⟨r, hr, hle, h⟩ := h
              rw [hrows] at hw
              have hrl := hw row r hr
              refine ⟨_, _, h, store_sound hH ho hb hfz hn hn1 (by omega) (by omega) (by rw [hrows]; rfl) rfl (fun j hj => ?_) ?wide (fun i j y hy => ?_) hi (by omega) site⟩
              case wide => exact wide_set hw hr (by omega)
              · rw [hrows]; simp only [rowCell, hr, Option.bind_some]
                exact ⟨_, List.getElem?_eq_getElem (show j < r.length by omega)⟩
              · simp only [rowCell, List.getElem?_set] at hy
                by_cases hir : row = i
                · subst hir
                  rw [if_pos rfl, if_pos (List.getElem?_eq_some_iff.1 hr).1] at hy
                  simp only [Option.bind_some, splice_get _ _ _ (show col + (cellsOf v).length ≤ r.length by omega)] at hy
                  by_cases hc : col ≤ j ∧ j < col + (cellsOf v).length
                  · rw [if_pos hc] at hy
                    exact .inl ⟨rfl, hc.1, hc.2, hy⟩
                  · rw [if_neg hc] at hy
                    refine .inr ⟨fun e => hc e.2, ?_⟩
                    rw [hrows]; simp only [rowCell, hr, Option.bind_some]; exact hy
                · rw [if_neg hir] at hy
                  refine .inr ⟨fun e => hir e.1.symm, ?_⟩
                  rw [hrows]; exact hy
            · exact h.elim
        · exact h.elim
      · exact h.elim
theorem vcMakeSlice_sound (hT : TabOk P T) (hH : HSim I β H w) {t : TypeId} {site : Nat} (hsite : β[site]? = some none) {l c : AV} {vl vc : Value} {K : AV → Upd → List Nat → Prop} (hl : ARel I β w l vl) (hc : ARel I β w c vc)
    (h : vcMakeSlice T t site l c K) : ∃ r u rd, K r u rd ∧ ∃ v' w', (Instr.makeSlice t vl vc).run P w = .ok v' w' ∧ Left_ I β w H r u v' w' site := by
  unfold vcMakeSlice at h
  simp only [eqv_eq] at h
  split at h
  · rename_i hlk
    obtain ⟨i0, u, zv, hi, hu, _, _, _, _, _, htk, _⟩ := look_spec hT hlk
    obtain rfl := int_inv hl; obtain rfl := int_inv hc
    split at h
    · obtain rfl := tkOf_slice htk
      split at h
      · rename_i hle
        obtain ⟨ie, ue, ze, hie, _, hze, hzs, hse, hby, _, _, hzero⟩ := look_spec hT hle
        subst hse; subst hby
        obtain ⟨hone, j, k, rfl, rfl, hjk, hb, hm, h⟩ := h
        refine ⟨_, _, _, h, _, _, run_make w t _ ie ze hu hie hze .i64 .i64 j k (by omega) (by omega) ?_ (by omega), ?_⟩
        · have : ((k * ie.bytes : Nat) : Int) ≤ 281474976710656 := by omega
          rw [Int.natCast_mul, Int.mul_comm] at this; exact this
        · simp only [Int.toNat_natCast]
          refine new_slice hH hsite _ ie.size j k _ _ ?wide (fun i j' x hx => ?_) hjk (by unfold maxLen; omega) rfl (size_madeCells _ _) (.inl rfl)
          case wide =>
            intro i r hr
            rw [List.getElem?_replicate] at hr
            split at hr
            · injection hr with hr; subst hr; rw [hzero]; simp [hzs]
            · cases hr
          · simp only [rowCell, Option.map_eq_some_iff, Option.bind_eq_some_iff, List.getElem?_replicate] at hx
            obtain ⟨p, ⟨r, hr, hp⟩, rfl⟩ := hx
            split at hr
            · rename_i hij
              injection hr with hr; subst hr
              have hp1 : oneCell (.pv p) = true := allOne_get hone (pvs_get.2 ⟨p, hp, rfl⟩)
              rw [hzero] at hp
              simp only [List.getElem?_map, Option.map_eq_some_iff] at hp
              obtain ⟨u, hu', rfl⟩ := hp
              have hj' := (List.getElem?_eq_some_iff.1 hu').1
              simp only [Array.length_toList] at hj'
              refine ⟨u, ?_, (one_rel (I := I) (β := β) (w := w) hp1 (rel_val u)).1, rel_val u⟩
              have hlt : i * ie.size + j' < k * ie.size := mul_lt_of (by omega) (by omega)
              have hmod : (i * ie.size + j') % ze.cells.size = j' := by
                rw [hzs, Nat.mul_comm, Nat.mul_add_mod]; exact Nat.mod_eq_of_lt (by omega)
              have hu2 : ze.cells[j'] = u := by
                have := (List.getElem?_eq_some_iff.1 hu').2
                simpa using this
              simp [madeCells, hlt, hmod, hj', hu2]
            · cases hr
      · exact h.elim
    · exact h.elim
  · exact h.elim
theorem put_rows (hH : HSim I β H w) {site id off o' z : Nat} {o : AObj} {b : Nat × Nat} {c : Array Value} {xs ys : List (List PV)} {news : List Value} {r : AV} {v0 : Value} (ho : H[id]? = some (some o)) (hbl : β[id]? = some (some b)) (hrows : o.rows = .p xs) (hfz : o.fz = false) (hoz : o.z = z)
    (hc : w.heap[b.1]? = some (.cells c o.ty (0, 0))) (hw : rowsWide (.p xs) z) (hcell : ∀ i j x, rowCell (.p xs) i j = some x → ∃ v, c[(i + b.2) * z + j]? = some v ∧ v.oneCell' = true ∧ ARel I β w x v)
    (hoo : o' = (off + b.2) * z) (hnl : news.length = ys.length * z) (hfit : o' + news.length ≤ c.size) (hyx : off + ys.length ≤ xs.length) (hsw : ∀ (i : Nat) r, ys[i]? = some r → r.length = z)
    (hsc : ∀ i j x, rowCell (.p ys) i j = some x → ∃ v, news[i * z + j]? = some v ∧ v.oneCell' = true ∧ ARel I β w x v) (hr : ∀ w', ARel I β w' r v0) :
    Left_ I β w H r [(id, some { o with rows := .p (xs.take off ++ ys ++ xs.drop (off + ys.length)) })] v0 (w.setRow b.1 (c.toList.take o' ++ news ++ c.toList.drop (o' + news.length)).toArray) site := by
  have hasz : (c.toList.take o' ++ news ++ c.toList.drop (o' + news.length)).toArray.size = c.size := by
    simp only [List.size_toArray, List.length_append, List.length_take, List.length_drop, Array.length_toList]; omega
  have hset := setRow_heap w b.1 c (c.toList.take o' ++ news ++ c.toList.drop (o' + news.length)).toArray o.ty (0, 0) hc
  have hzl : (xs.take off).length = off := by simp; omega
  have hzs' : ∀ i : Nat, (xs.take off ++ ys ++ xs.drop (off + ys.length))[i]? = if off ≤ i ∧ i < off + ys.length then ys[i - off]? else xs[i]? := fun i => by
    by_cases h1 : i < off
    · rw [if_neg (by omega), List.append_assoc, List.getElem?_append_left (by omega), List.getElem?_take_of_lt h1]
    · by_cases h2 : i < off + ys.length
      · rw [if_pos ⟨by omega, h2⟩, List.append_assoc, List.getElem?_append_right (by omega), hzl, List.getElem?_append_left (by omega)]
      · rw [if_neg (by omega), List.getElem?_append_right (by rw [List.length_append, hzl]; omega), List.getElem?_drop]
        congr 1
        rw [List.length_append, hzl]; omega
  obtain ⟨h1, h2⟩ := heap_upd (on := { o with rows := .p (xs.take off ++ ys ++ xs.drop (off + ys.length)) }) (arr := (c.toList.take o' ++ news ++ c.toList.drop (o' + news.length)).toArray) (tgt := id) (β2 := β) (H2 := H.set id (some { o with rows := .p (xs.take off ++ ys ++ xs.drop (off + ys.length)) })) hH ho hbl rfl hfz hfz (by rw [memOf_cells rfl]; exact hset)
    (fun t n hs => by rw [shape_of_heap hc] at hs; rw [shape_of_heap hset, hasz]; exact hs) (fun k hk => setRow_other w b.1 k _ hk) (by simp) rfl rfl rfl (Nat.le_refl _) (by simp [hH.len]) (fun i b h => h)
    (fun i o2 ho2 => by
      by_cases h : id = i
      · subst h
        rw [List.getElem?_set_self (List.getElem?_eq_some_iff.1 ho).1] at ho2
        injection ho2 with ho2; injection ho2 with ho2
        exact .inr ⟨rfl, ho2.symm⟩
      · rw [List.getElem?_set_ne h] at ho2
        exact .inl ⟨ho2, fun e => h e.symm⟩) hbl (fun i b' h => .inl h) (fun i r hr => by
      rw [hzs'] at hr
      dsimp only
      rw [hoz]
      split at hr
      · exact hsw _ r hr
      · exact hw i r hr) (fun i j x hx => by
      dsimp only at hx ⊢
      rw [hoz]
      simp only [rowCell, hzs'] at hx
      by_cases hin : off ≤ i ∧ i < off + ys.length
      · rw [if_pos hin] at hx
        obtain ⟨v, hv, h3, h4⟩ := hsc (i - off) j x hx
        refine ⟨v, ?_, h3, h4⟩
        have hlt := (List.getElem?_eq_some_iff.1 hv).1
        rw [arr_get c _ _ hfit]
        have e : (i + b.2) * z + j = o' + ((i - off) * z + j) := by
          rw [hoo, show i + b.2 = (off + b.2) + (i - off) by omega, Nat.add_mul]; omega
        rw [e, if_pos ⟨by omega, by omega⟩, Nat.add_sub_cancel_left]
        exact hv
      · rw [if_neg hin] at hx
        obtain ⟨v, hv, h3, h4⟩ := hcell i j x hx
        refine ⟨v, ?_, h3, h4⟩
        have hj : j < z := by
          simp only [Option.map_eq_some_iff, Option.bind_eq_some_iff] at hx
          obtain ⟨p, ⟨r, hr, hp⟩, _⟩ := hx
          have h5 := hw i r hr
          have := (List.getElem?_eq_some_iff.1 hp).1
          omega
        rw [arr_get c _ _ hfit, if_neg]
        · exact hv
        · rintro ⟨h6, h7⟩
          rw [hoo] at h6 h7
          rw [hnl] at h7
          rcases Nat.lt_or_ge i off with h8 | h8
          · have := Nat.mul_le_mul_right z (show i + b.2 + 1 ≤ off + b.2 from by omega)
            rw [Nat.succ_mul] at this; omega
          · have := Nat.mul_le_mul_right z (show off + b.2 + ys.length ≤ i + b.2 from by omega)
            rw [Nat.add_mul (off + b.2) ys.length] at this; omega)
  exact ⟨I, β, h1, hr _, h2, fun s hs _ => hs⟩
theorem vcCopy_sound (hT : TabOk P T) (hH : HSim I β H w) {t t2 ty : TypeId} (site : Nat) {d x : AV} {vd vx : Value} {K : AV → Upd → List Nat → Prop} (hd : ARel I β w d vd) (hx : ARel I β w x vx) (h : vcCopy T t d x H K) :
    ∃ r u rd, K r u rd ∧ ∃ v' w', (Builtin.copy_ #[t, t2] ty #[vd, vx]).run P w = .ok v' w' ∧ Left_ I β w H r u v' w' site := by
  unfold vcCopy at h
  simp only [eqv_eq] at h
  split at h
  · rename_i hl
    obtain ⟨i0, u, zv, hi, hu, _, _, hsz, _, hagg, htk, _⟩ := look_spec hT hl
    split at h
    · rename_i e
      obtain rfl := tkOf_slice htk
      split at h
      · rename_i hle
        obtain ⟨ie, ue, ze, hie, _, hze, hzs, hse, hby, _, _, _⟩ := look_spec hT hle
        subst hse; subst hby
        split at h
        · rename_i id z off len z' ys
          obtain ⟨b, cap, o', rfl, hbl, hcap, hcm, ho', t', hsh⟩ := ms_inv hd
          split at h
          · rename_i o hck ho
            simp only [Bool.and_eq_true] at hck
            obtain ⟨hz', hpos⟩ := hck
            have hz' := Nat.eq_of_beq_eq_true hz'; subst hz'
            have hpos : 0 < ie.size := by simpa [Nat.blt_eq] using hpos
            split at h
            · rename_i xs hck2 hrows
              simp only [Bool.and_eq_true, Bool.not_eq_true'] at hck2
              obtain ⟨hfz, hz, hoz⟩ := hck2
              have hz := Nat.eq_of_beq_eq_true hz; subst hz
              have hoz := Nat.eq_of_beq_eq_true hoz
              obtain ⟨hy0, hyl, hyx, hk⟩ := h
              obtain ⟨news, hsrc⟩ := src_of (z := ie.size) hH hx (by simp [srcOk]) (rx := .p ys) rfl rfl
              have hnl : news.length = ys.length * ie.size := hsrc.len
              have hmp : isMp o.rows = false := by rw [hrows]; rfl
              obtain ⟨hw, _, c, hc, hcell⟩ := obj_at hH ho hbl hmp
              rw [hoz, hrows] at hw
              rw [hoz] at hcell
              have hcsz : c.size = (off + b.2 + cap) * ie.size := by
                rw [shape_of_heap hc] at hsh
                injection hsh with hsh; injection hsh
              have hoo : o' = (off + b.2) * ie.size := ho'.resolve_right (fun e => by have := e.1; omega)
              have hmn : ys.length * ie.size ≤ cap * ie.size := Nat.mul_le_mul_right _ (by omega)
              have hfit : o' + news.length ≤ c.size := by rw [hoo, hcsz, hnl, Nat.add_mul (off + b.2) cap]; omega
              rcases hsrc.form with ⟨c0, rfl, hm0⟩ | ⟨a, c0, rfl, hcells⟩
              · have hm0 : ys.length = 0 := hm0
                omega
              · have hf := run_firstCells_some (P := P) w ie.size ys.length a ys.length c0 news hnl hcells
                have hst := run_storeCells_at P b.1 o' o.ty news 0 c w hc (by simpa using hfit) hsrc.one
                simp only [Nat.add_zero] at hst
                have hmin : Nat.min ys.length len = ys.length := Nat.min_eq_left hyl
                have hrun : (Builtin.copy_ #[t, t2] ty #[.slice (some ⟨b.1, o', none⟩) len cap, .slice (some a) ys.length c0]).run P w = .ok (.int .i64 ys.length) (w.setRow b.1 (c.toList.take o' ++ news ++ c.toList.drop (o' + news.length)).toArray) := by
                  simp [Builtin.copy_, run_underlying hu, sizeOf, typeInfo, hie, Builtin.lenOf, hmin, hf, hst, goInt]
                  try rfl
                refine ⟨_, _, _, hk, .int .i64 ys.length, _, hrun, ?_⟩
                exact put_rows hH ho hbl hrows hfz hoz hc hw (by rw [← hrows]; exact hcell) hoo hnl hfit hyx hsrc.wide hsrc.cell fun _ => rel_val _
            · exact h.elim
          · exact h.elim
        · exact h.elim
      · exact h.elim
    · exact h.elim
  · exact h.elim
theorem vcClear_sound (hT : TabOk P T) (hH : HSim I β H w) {t ty : TypeId} (site : Nat) {d : AV} {vd : Value} {K : AV → Upd → List Nat → Prop} (hd : ARel I β w d vd) (h : vcClear T t d H K) :
    ∃ r u rd, K r u rd ∧ ∃ v' w', (Builtin.clear_ #[t] ty #[vd]).run P w = .ok v' w' ∧ Left_ I β w H r u v' w' site := by
  unfold vcClear at h
  simp only [eqv_eq] at h
  split at h
  · rename_i hl
    obtain ⟨i0, u, zv, hi, hu, _, _, hsz, _, hagg, htk, _⟩ := look_spec hT hl
    split at h
    · rename_i e
      obtain rfl := tkOf_slice htk
      split at h
      · rename_i hle
        obtain ⟨ie, ue, ze, hie, _, hze, hzs, hse, hby, _, _, hzero⟩ := look_spec hT hle
        subst hse; subst hby
        split at h
        · rename_i id z off len
          obtain ⟨b, cap, o', rfl, hbl, hcap, hcm, ho', t', hsh⟩ := ms_inv hd
          split at h
          · rename_i o hpos ho
            have hpos : 0 < ie.size := by simpa [Nat.blt_eq] using hpos
            split at h
            · rename_i xs hck2 hrows
              simp only [Bool.and_eq_true, Bool.not_eq_true'] at hck2
              obtain ⟨hfz, hz, hoz⟩ := hck2
              have hz := Nat.eq_of_beq_eq_true hz; subst hz
              have hoz := Nat.eq_of_beq_eq_true hoz
              obtain ⟨hone, hl0, hyx, hk⟩ := h
              have hmp : isMp o.rows = false := by rw [hrows]; rfl
              obtain ⟨hw, _, c, hc, hcell⟩ := obj_at hH ho hbl hmp
              rw [hoz, hrows] at hw
              rw [hoz, hrows] at hcell
              have hcsz : c.size = (off + b.2 + cap) * ie.size := by
                rw [shape_of_heap hc] at hsh
                injection hsh with hsh; injection hsh
              have hoo : o' = (off + b.2) * ie.size := ho'.resolve_right (fun e => by have := e.1; omega)
              have hmn : len * ie.size ≤ cap * ie.size := Nat.mul_le_mul_right _ hcap
              have hnl0 : (Builtin.zeroCells ze.cells len).toList.length = len * ie.size := by rw [Array.length_toList, size_zeroCells, hzs]
              have hfit : o' + (Builtin.zeroCells ze.cells len).toList.length ≤ c.size := by rw [hoo, hcsz, hnl0, Nat.add_mul (off + b.2) cap]; omega
              have hu1 : ∀ u ∈ ze.cells.toList, u.oneCell' = true := fun u hu' => by
                obtain ⟨j, hj⟩ := List.getElem?_of_mem hu'
                have hp1 : oneCell (.pv (.val u)) = true := allOne_get hone (pvs_get.2 ⟨.val u, by rw [hzero, List.getElem?_map, hj]; rfl, rfl⟩)
                exact (one_rel (I := I) (β := β) (w := w) hp1 (rel_val u)).1
              have hzg : ∀ k, k < len * ie.size → ∃ u, (Builtin.zeroCells ze.cells len).toList[k]? = some u ∧ ze.cells.toList[k % ie.size]? = some u := fun k hk => by
                have h2 : k % ie.size < ze.cells.size := by rw [hzs]; exact Nat.mod_lt _ hpos
                refine ⟨ze.cells[k % ie.size], ?_, by simp [h2]⟩
                have hk' : k < len * ze.cells.size := by rw [hzs]; exact hk
                simp only [Builtin.zeroCells, Array.toList_map, List.getElem?_map, Array.toList_range, List.getElem?_range hk', Option.map_some]
                rw [hzs, getElem!_pos ze.cells (k % ie.size) h2]
              have hones : ∀ v ∈ (Builtin.zeroCells ze.cells len).toList, v.oneCell' = true := fun v hv => by
                obtain ⟨k, hk2⟩ := List.getElem?_of_mem hv
                have hlt := (List.getElem?_eq_some_iff.1 hk2).1
                rw [hnl0] at hlt
                obtain ⟨u, h1, h2⟩ := hzg k hlt
                rw [h1] at hk2; injection hk2 with hk2; subst hk2
                exact hu1 _ (List.mem_of_getElem? h2)
              have hst := run_storeCells_at P b.1 o' o.ty (Builtin.zeroCells ze.cells len).toList 0 c w hc (by simpa using hfit) hones
              simp only [Nat.add_zero] at hst
              have hrun : (Builtin.clear_ #[t] ty #[.slice (some ⟨b.1, o', none⟩) len cap]).run P w = .ok (.tuple #[]) (w.setRow b.1 (c.toList.take o' ++ (Builtin.zeroCells ze.cells len).toList ++ c.toList.drop (o' + (Builtin.zeroCells ze.cells len).toList.length)).toArray) := by
                obtain ⟨len, rfl⟩ : ∃ n, len = n + 1 := ⟨len - 1, by omega⟩
                simp [Builtin.clear_, run_underlying hu, zeroValue, typeInfo, hie, hze]
                simp at hst
                simp [hst]
              refine ⟨_, _, _, hk, .tuple #[], _, hrun, ?_⟩
              have hfin := put_rows (site := site) (r := .tup []) (v0 := .tuple #[]) (ys := List.replicate len (ze.cells.toList.map .val)) hH ho hbl hrows hfz hoz hc hw hcell hoo (by rw [hnl0, List.length_replicate]) hfit (by rw [List.length_replicate]; exact hyx) (fun i r hr => by
                rw [List.getElem?_replicate] at hr
                split at hr
                · injection hr with hr; subst hr; simp [hzs]
                · cases hr) (fun i j x hx => by
                simp only [rowCell, Option.map_eq_some_iff, Option.bind_eq_some_iff, List.getElem?_replicate] at hx
                obtain ⟨p, ⟨r, hr, hp⟩, rfl⟩ := hx
                split at hr
                · rename_i hij
                  injection hr with hr; subst hr
                  simp only [List.getElem?_map, Option.map_eq_some_iff] at hp
                  obtain ⟨u, hu', rfl⟩ := hp
                  have hj := (List.getElem?_eq_some_iff.1 hu').1
                  simp only [Array.length_toList, hzs] at hj
                  have hlt : i * ie.size + j < len * ie.size := mul_lt_of (by omega) (by omega)
                  obtain ⟨u2, h1, h2⟩ := hzg _ hlt
                  have hmod : (i * ie.size + j) % ie.size = j := by rw [Nat.mul_comm, Nat.mul_add_mod]; exact Nat.mod_eq_of_lt (by omega)
                  rw [hmod, hu'] at h2
                  injection h2 with h2; subst h2
                  exact ⟨u, h1, hu1 u (List.mem_of_getElem? hu'), rel_val u⟩
                · cases hr) (fun _ => .tup rfl fun i v h => by simp at h)
              rw [List.length_replicate] at hfin
              rw [hzero]
              exact hfin
            · exact h.elim
          · exact h.elim
        · exact h.elim
      · exact h.elim
    · exact h.elim
  · exact h.elim
theorem rowsOf_spec {ρ : Operand → Option AV} {z : Nat} : ∀ {parts : List (Nat × Operand)} {k : Nat} {rs : List (List AV)}, rowsOf ρ z k parts = some rs →
    rs.length = parts.length ∧ (∀ (i : Nat) r, rs[i]? = some r → r.length = z ∧ allOne r = true)
  | [], k, rs, h => by simp [rowsOf] at h; subst h; simp
  | (i, x) :: l, k, rs, h => by
    simp only [rowsOf] at h
    split at h
    · rename_i v hk hv
      split at h
      · rename_i rs' hck hrec
        injection h with h; subst h
        simp only [Bool.and_eq_true] at hck
        obtain ⟨h1, h2⟩ := rowsOf_spec hrec
        refine ⟨by simp [h1], fun i r hr => ?_⟩
        cases i with
        | zero => simp at hr; subst hr; exact ⟨Nat.eq_of_beq_eq_true hck.1, hck.2⟩
        | succ i => exact h2 i r (by simpa using hr)
      · cases h
    · cases h
theorem fill_rows {ρ : Operand → Option AV} {val : Operand → Value} (hρ : ∀ x v, ρ x = some v → ARel I β w v (val x)) {z : Nat} :
    ∀ {parts : List (Nat × Operand)} {k : Nat} {rs : List (List AV)} {cs : List AV} {vs : Array Value}, rowsOf ρ z k parts = some rs → CRel I β w cs vs → (k + parts.length) * z ≤ cs.length →
      ∃ out cells, Instr.fill (fun i => some (i * z, z)) vs (parts.map fun (i, x) => (i, val x)) = some cells ∧ CRel I β w out cells ∧ out.length = cs.length ∧
        (∀ m, m < k * z → out[m]? = cs[m]?) ∧ ∀ i r j, rs[i]? = some r → j < z → out[(k + i) * z + j]? = r[j]?
  | [], k, rs, cs, vs, h, hc, hle => by
    simp [rowsOf] at h; subst h
    exact ⟨cs, vs, rfl, hc, rfl, fun _ _ => rfl, fun i r j hr => by simp at hr⟩
  | (i, x) :: l, k, rs, cs, vs, h, hc, hle => by
    simp only [rowsOf] at h
    split at h
    · rename_i v hk hv
      have hk := Nat.eq_of_beq_eq_true hk; subst hk
      split at h
      · rename_i rs' hck hrec
        injection h with h; subst h
        simp only [Bool.and_eq_true] at hck
        have hlz := Nat.eq_of_beq_eq_true hck.1
        have hcr := CRel.of_cells hck.2 (hρ x v hv)
        have hfit : i * z + (cellsOf v).length ≤ cs.length := by
          rw [hlz]
          have := Nat.mul_le_mul_right z (show i + 1 ≤ i + ((i, x) :: l).length by simp)
          rw [Nat.succ_mul] at this; omega
        have hfold := hc.fold (off := i * z) hcr hfit
        obtain ⟨out, cells, h1, h2, h3, h4, h5⟩ := fill_rows hρ (k := i + 1) hrec hfold (by
          rw [splice_length _ _ _ hfit]
          rw [show i + 1 + l.length = i + ((i, x) :: l).length from by simp; omega]; exact hle)
        refine ⟨out, cells, ?_, h2, by rw [h3, splice_length _ _ _ hfit], fun m hm => ?_, fun i' r j hr hj => ?_⟩
        · simp only [List.map_cons, Instr.fill]
          have hs1 : (val x).cells.size = z := by rw [hcr.1, hlz]
          have hs2 : i * z + z ≤ vs.size := by rw [hc.1]; omega
          rw [if_neg (by simp [hs1]; exact hs2)]
          exact h1
        · rw [h4 m (by rw [Nat.succ_mul]; omega), splice_get _ _ _ hfit, if_neg (by omega)]
        · cases i' with
          | zero =>
            simp at hr; subst hr
            rw [Nat.add_zero, h4 _ (by rw [Nat.succ_mul]; omega), splice_get _ _ _ hfit, if_pos (by omega)]
            congr 1; omega
          | succ i' =>
            have := h5 i' r j (by simpa using hr) hj
            rw [← this, show i + 1 + i' = i + (i' + 1) from by omega]
      · cases h
    · cases h
theorem mk_nomp {xs : List (List AV)} : isMp (mkRows xs) = false := by unfold mkRows; split <;> rfl
theorem vcBuildSlice_sound (hT : TabOk P T) (hH : HSim I β H w) {t : TypeId} {site : Nat} (hsite : β[site]? = some none) {ρ : Operand → Option AV} {val : Operand → Value} (hρ : ∀ x v, ρ x = some v → ARel I β w v (val x))
    {size bytes : Nat} {agg : Bool} {zero : List PV} {e : TypeId} (hl : look T t = some ⟨size, bytes, agg, .slice e, zero⟩) {esize ebytes : Nat} {eagg : Bool} {etk : TK} {ezero : List PV} (hle : look T e = some ⟨esize, ebytes, eagg, etk, ezero⟩)
    {parts : List (Nat × Operand)} {rs : List (List AV)} (hrs : rowsOf ρ esize 0 parts = some rs) {len : Nat} (hlen : rs.length = len) (hlim : len * esize ≤ 4096) (hlim2 : len ≤ 4096) :
    ∃ v' w', (Instr.buildSlice t len (parts.toArray.map fun (i, x) => (i, val x))).run P w = .ok v' w' ∧ Left_ I β w H (.ms site esize 0 len) [(site, some ⟨e, esize, false, mkRows rs⟩)] v' w' site := by
  obtain ⟨i0, u, zv, hi, hu, _, _, _, _, _, htk, _⟩ := look_spec hT hl
  obtain rfl := tkOf_slice htk
  obtain ⟨ie, ue, ze, hie, _, hze, hzs, hse, _, _, _, hzero⟩ := look_spec hT hle
  subst hse
  obtain ⟨hr1, hr2⟩ := rowsOf_spec hrs
  let base : Array Value := (Array.range (len * ie.size)).map (ze.cells[· % ze.cells.size]!)
  have hbase : CRel I β w (base.toList.map fun v => .pv (.val v)) base := by
    refine ⟨by simp, fun j c hc => ?_⟩
    simp only [List.getElem?_map, Option.map_eq_some_iff] at hc
    obtain ⟨v, hv, rfl⟩ := hc
    exact ⟨v, by simpa using hv, rel_val v⟩
  obtain ⟨out, cells, h1, h2, h3, _, h5⟩ := fill_rows hρ hrs hbase (by simp only [base, List.length_map, Array.length_toList, Array.size_map, Array.size_range]; rw [Nat.zero_add, ← hr1, hlen]; exact Nat.le_refl _)
  have hcs : cells.size = len * ie.size := by rw [h2.1, h3]; simp [base]
  refine ⟨_, _, ?_, new_slice hH hsite e ie.size len len (mkRows rs) cells (rowsWide_mk fun i r hr => (hr2 i r hr).1) (BCells.of_crel h2 fun i j x hx => ?_) (Nat.le_refl _) ?_ mk_nomp hcs (.inl rfl)⟩
  · have hlim' : ¬ (len * ie.size > 2 ^ 24) := by omega
    have hs : (sizeOf e).run P w = .ok ie.size w := by simp [sizeOf, typeInfo, hie]
    have hp : (parts.toArray.map fun (i, x) => (i, val x)).toList = parts.map fun (i, x) => (i, val x) := by simp
    unfold Instr.buildSlice
    simp only [Sem.run_bind, run_underlying hu, Result.andThen_ok, hs, if_neg hlim']
    by_cases h0 : len * ie.size = 0
    · have hb : base = #[] := by simp [base, h0]
      rw [hb] at h1
      simp only [h0, if_true, hp, Array.range_zero', Array.map_empty, h1]
      simp [newRow]
    · simp only [if_neg h0, Sem.run_bind, Sem.run_pure, Result.andThen_ok, zeroValue, typeInfo, hp]
      simp only [run_program, Result.andThen_ok, hie, Sem.run_pure, hze]
      have h1' : Instr.fill (fun i => some (i * ie.size, ie.size)) ((Array.range (len * ie.size)).map (ze.cells[· % ze.cells.size]!)) (parts.map fun (i, x) => (i, val x)) = some cells := h1
      simp only [h1']
      simp [newRow]
  · rw [rowCell_mk] at hx
    simp only [rowCell, Option.bind_eq_some_iff] at hx
    obtain ⟨r, hr, hx⟩ := hx
    obtain ⟨h6, h7⟩ := hr2 i r hr
    have hj := (List.getElem?_eq_some_iff.1 hx).1
    have := h5 i r j hr (by omega)
    rw [Nat.zero_add] at this
    exact ⟨this.trans hx, allOne_get h7 hx⟩
  · unfold maxLen; omega
end
end Go.Cw
/-
  Cw, part QA: strings, arrays by index, conversions, maps.
-/
namespace Go.Cw
set_option linter.unusedVariables false
section
variable {P : Program} {T : Tab} {I : Nat → Prop} {β : Beta} {w : World} {H : Heap}
def KeyT (P : Program) (kst : KS) (k : IntKind) (kt : TypeId) : Prop := match kst with
  | .num => P.underlying kt = some (.int k)
  | .str => P.underlying kt = some .string
  | .arr n => ∃ e i, P.underlying kt = some (.array n e) ∧ P.underlying e = some (.int k) ∧ P.info? e = some i ∧ P.cellsOf e = 1
theorem isInt_spec {k : IntKind} {v : Value} (h : isInt k v = true) : ∃ n, v = .int k n := by
  cases v <;> simp [isInt] at h
  rename_i n
  exact ⟨n, by rw [ixEq_eq h]⟩
theorem keyOk_num {k : IntKind} {v : Value} (h : keyOk .num k v = true) : ∃ n, v = .int k n := by
  cases v <;> simp [keyOk] at h
  rename_i n
  exact ⟨n, by rw [ixEq_eq h]⟩
theorem keyOk_str {k : IntKind} {v : Value} (h : keyOk .str k v = true) : ∃ s, v = .string s := by
  cases v <;> simp [keyOk] at h
  exact ⟨_, rfl⟩
theorem keyOk_arr {n : Nat} {k : IntKind} {v : Value} (h : keyOk (.arr n) k v = true) : ∃ cs : Array Value, v = .agg cs ∧ cs.size = n ∧ ∀ x ∈ cs.toList, ∃ m, x = .int k m := by
  cases v <;> simp only [keyOk, Bool.false_eq_true] at h
  rename_i cs
  simp only [Bool.and_eq_true, Nat.beq_eq, List.all_eq_true] at h
  exact ⟨cs, rfl, h.1, fun x hx => isInt_spec (h.2 x hx)⟩
theorem eqV_eq {k : IntKind} : ∀ {l m : List Value}, (∀ x ∈ l, ∃ n, x = .int k n) → (∀ x ∈ m, ∃ n, x = .int k n) → (eqV l m = true ↔ l = m)
  | [], [], _, _ => by simp [eqV]
  | x :: l, [], h, _ => by
    obtain ⟨a, rfl⟩ := h x (by simp)
    simp [eqV]
  | [], y :: m, _, h => by
    obtain ⟨b, rfl⟩ := h y (by simp)
    simp [eqV]
  | x :: l, y :: m, h1, h2 => by
    obtain ⟨a, rfl⟩ := h1 x (by simp)
    obtain ⟨b, rfl⟩ := h2 y (by simp)
    have ih := eqV_eq (l := l) (m := m) (fun x hx => h1 x (by simp [hx])) (fun x hx => h2 x (by simp [hx]))
    simp only [eqV, Bool.and_eq_true, beq_iff_eq, ih, List.cons.injEq, Value.int.injEq, true_and]
theorem kEq_eq {kst : KS} {k : IntKind} {a b : Value} (ha : keyOk kst k a = true) (hb : keyOk kst k b = true) (h : kEq a b = true) : a = b := by
  cases kst with
  | num =>
    obtain ⟨x, rfl⟩ := keyOk_num ha
    obtain ⟨y, rfl⟩ := keyOk_num hb
    simp only [kEq, beq_iff_eq] at h
    rw [h]
  | str =>
    obtain ⟨x, rfl⟩ := keyOk_str ha
    obtain ⟨y, rfl⟩ := keyOk_str hb
    simp only [kEq] at h
    rw [(MapKept.bytes_beq _ _).1 h]
  | arr n =>
    obtain ⟨x, rfl, _, hx⟩ := keyOk_arr ha
    obtain ⟨y, rfl, _, hy⟩ := keyOk_arr hb
    simp only [kEq] at h
    rw [Array.toList_inj.1 ((eqV_eq hx hy).1 h)]
theorem keyTk_kind (hT : TabOk P T) {kst : KS} {k : IntKind} {kt : TypeId} {u : TypeDesc} (hu : P.underlying kt = some u) (h : keyTk T kst k (tkOf u) = true) : KeyT P kst k kt := by
  cases u <;> simp only [tkOf, keyTk, Bool.false_eq_true] at h
  case int k' =>
    cases kst <;> simp at h
    rw [ixEq_eq h]; exact hu
  case string =>
    cases kst <;> simp at h
    exact hu
  case array n e =>
    cases kst <;> simp only [Bool.false_eq_true] at h
    rename_i n'
    simp only [Bool.and_eq_true, Nat.beq_eq] at h
    obtain ⟨rfl, h⟩ := h
    split at h
    · rename_i hl
      simp only [Bool.and_eq_true, Nat.beq_eq] at h
      obtain ⟨⟨h1, -⟩, h2⟩ := h
      obtain ⟨i, u2, z, hi, hu2, _, _, hsz, _, _, htk, _⟩ := look_spec hT hl
      have hq := tkOf_int htk
      subst hq
      rw [← ixEq_eq h2] at hu2
      exact ⟨e, i, hu, hu2, hi, by simp [Program.cellsOf, hi, hsz, h1]⟩
    · cases h
theorem key_inv {a : Act} {ρ : Operand → Option AV} (hρ : ∀ x v, ρ x = some v → ARel I β w v (a.eval x)) {i : Operand} {kv : Value} (h : (ρ i).bind keyVal = some kv) : a.eval i = kv := by
  cases hx : ρ i with
  | none => rw [hx] at h; cases h
  | some x =>
    rw [hx] at h
    have hr := hρ _ _ hx
    generalize a.eval i = v0 at hr ⊢
    cases x with
    | pv p =>
      cases p with
      | val v =>
        simp only [Option.bind_some, keyVal, Option.some.injEq] at h
        subst h
        exact val_inv hr
      | _ => simp [keyVal] at h
    | agg cs =>
      simp only [Option.bind_some, keyVal] at h
      split at h
      · rename_i vs hvs
        injection h with h; subst h
        cases hr with
        | agg hl hc =>
          rename_i as_
          have key : ∀ (cs : List AV) (vs : List Value), valL cs = some vs → cs.length = vs.length ∧ ∀ (j : Nat) v, vs[j]? = some v → cs[j]? = some (.pv (.val v)) := by
            intro cs
            induction cs with
            | nil => intro vs h; simp only [valL, Option.some.injEq] at h; subst h; simp
            | cons c cs ih =>
              intro vs h
              unfold valL at h
              split at h
              · cases ‹c :: cs = []›
              · rename_i v0 l0 heq
                injection heq with e1 e2; subst e1; subst e2
                split at h
                · rename_i m hm
                  injection h with h; subst h
                  obtain ⟨g1, g2⟩ := ih m hm
                  refine ⟨by simp [g1], fun j v hj => ?_⟩
                  cases j with
                  | zero => simp at hj; subst hj; rfl
                  | succ j => simpa using g2 j v (by simpa using hj)
                · cases h
              · cases h
          obtain ⟨g1, g2⟩ := key cs vs hvs
          congr 1
          apply Array.ext
          · rw [hl, g1]; simp
          · intro j h1 h2
            have h3 : vs[j]? = some (vs.toArray[j]) := by simp at h2; simp [h2]
            have h4 := hc j _ (g2 j _ h3)
            have := val_inv h4
            rw [Array.getD_eq_getD_getElem?, Array.getElem?_eq_getElem h1] at this
            simpa using this
      · cases h
    | _ => simp [keyVal] at h
def idxM (k : Value) : List (Value × Nat × AV) → Option Nat
  | [] => none
  | e :: l => bif kEq k e.1 then some 0 else (idxM k l).map (· + 1)
theorem getM_idx (k : Value) : ∀ es, getM k es = (idxM k es).bind fun j => (es[j]?).map (·.2.2)
  | [] => rfl
  | e :: l => by
    simp only [getM, idxM]
    cases kEq k e.1
    · simp only [cond_false, getM_idx k l]
      cases idxM k l <;> simp
    · simp
theorem putM_idx (k : Value) (v : AV) (ck : Nat) : ∀ es, putM k v ck es = match idxM k es with
    | some j => es.modify j fun e => (k, e.2.1, v)
    | none => es ++ [(k, ck, v)]
  | [] => rfl
  | e :: l => by
    simp only [putM, idxM]
    cases kEq k e.1
    · simp only [cond_false, putM_idx k v ck l]
      cases idxM k l <;> simp
    · simp
theorem idxM_spec {kst : KS} {kd : IntKind} {k : Value} (hk : keyOk kst kd k = true) : ∀ {es : List (Value × Nat × AV)} {j : Nat}, (∀ e ∈ es, keyOk kst kd e.1 = true) → idxM k es = some j → ∃ e, es[j]? = some e ∧ e.1 = k
  | [], j, _, h => by simp [idxM] at h
  | e :: l, j, ho, h => by
    simp only [idxM] at h
    cases hq : kEq k e.1
    · rw [hq] at h
      simp only [cond_false, Option.map_eq_some_iff] at h
      obtain ⟨i, hi, rfl⟩ := h
      obtain ⟨e', h1, h2⟩ := idxM_spec hk (fun e he => ho e (by simp [he])) hi
      exact ⟨e', by simpa using h1, h2⟩
    · rw [hq] at h
      simp at h; subst h
      exact ⟨e, rfl, (kEq_eq hk (ho e (by simp)) hq).symm⟩
abbrev mkE (p : (Value × Nat × AV) × Value) : MapEntry := ⟨p.1.1, p.2, p.1.2.1⟩
theorem findNow_idx {d : TypeDesc} {k : Value} : ∀ (es : List (Value × Nat × AV)) (c : List Value) (i : Nat), es.length ≤ c.length → (∀ e ∈ es, Instr.sameNow d k e.1 = some (kEq k e.1)) →
    Instr.findNow d k ((es.zip c).map mkE) i = some ((idxM k es).bind fun j => (c[j]?).map fun v => (i + j, v))
  | [], c, i, _, _ => by simp [Instr.findNow, idxM]
  | e :: l, [], i, h, _ => by simp at h
  | e :: l, v :: c, i, h, ho => by
    simp only [List.zip_cons_cons, List.map_cons, Instr.findNow, ho e (by simp), idxM]
    cases kEq k e.1
    · simp only [cond_false, findNow_idx l c (i + 1) (by simpa using h) (fun e he => ho e (by simp [he]))]
      cases idxM k l with
      | none => rfl
      | some j => simp [show i + 1 + j = i + (j + 1) by omega]
    · simp
theorem findAsk_idx {kt : TypeId} {k : Value} : ∀ (es : List (Value × Nat × AV)) (c : List Value) (i : Nat), es.length ≤ c.length → (∀ e ∈ es, (Op.equal kt k e.1).run P w = .ok (kEq k e.1) w) →
    (Instr.findAsking kt k ((es.zip c).map mkE) i).run P w = .ok ((idxM k es).bind fun j => (c[j]?).map fun v => (i + j, v)) w
  | [], c, i, _, _ => by simp [Instr.findAsking, idxM]
  | e :: l, [], i, h, _ => by simp at h
  | e :: l, v :: c, i, h, ho => by
    simp only [List.zip_cons_cons, List.map_cons, Instr.findAsking, Sem.run_bind, ho e (by simp), Result.andThen_ok, idxM]
    cases kEq k e.1
    · simp only [cond_false, Bool.false_eq_true, if_false, findAsk_idx l c (i + 1) (by simpa using h) (fun e he => ho e (by simp [he]))]
      cases idxM k l with
      | none => rfl
      | some j => simp [show i + 1 + j = i + (j + 1) by omega]
    · simp
theorem run_eqItems_ints {e : TypeId} {kd : IntKind} (hu : P.underlying e = some (.int kd)) (d : Nat) {xs ys : Array Value} (hx : ∀ x ∈ xs.toList, ∃ m, x = .int kd m) (hy : ∀ x ∈ ys.toList, ∃ m, x = .int kd m) : ∀ (m i : Nat), xs.size = i + m → ys.size = i + m →
    (Op.eqItems (d + 1) e 1 xs ys (List.range' i m)).run P w = .ok (eqV (xs.toList.drop i) (ys.toList.drop i)) w
  | 0, i, h1, h2 => by
    have e1 : xs.toList.drop i = [] := List.drop_eq_nil_of_le (by simp; omega)
    have e2 : ys.toList.drop i = [] := List.drop_eq_nil_of_le (by simp; omega)
    rw [e1, e2]
    simp [Op.eqItems, eqV]
  | m + 1, i, h1, h2 => by
    have hp : P.plainKey e = true := by simp [Program.plainKey, hu]
    have g1 : i < xs.toList.length := by simp; omega
    have g2 : i < ys.toList.length := by simp; omega
    obtain ⟨a, ha⟩ := hx _ (List.getElem_mem g1)
    obtain ⟨b, hb⟩ := hy _ (List.getElem_mem g2)
    have hxa : xs[i * 1]? = some (.int kd a) := by rw [Nat.mul_one, ← ha]; simp at g1; simp [g1]
    have hyb : ys[i * 1]? = some (.int kd b) := by rw [Nat.mul_one, ← hb]; simp at g2; simp [g2]
    rw [List.range'_succ, List.drop_eq_getElem_cons g1, List.drop_eq_getElem_cons g2, ha, hb]
    simp only [Op.eqItems, Sem.run_bind, run_part_plain w hp hxa, run_part_plain w hp hyb, Result.andThen_ok, Op.equalIn, run_underlying hu, if_true, Sem.run_pure, eqV]
    have ih := run_eqItems_ints hu d hx hy m (i + 1) (by omega) (by omega)
    cases hq : a == b
    · simp [hq]
    · simp [hq, ih]
theorem run_equal_arr {kt : TypeId} {n : Nat} {kd : IntKind} (hk : KeyT P (.arr n) kd kt) {a b : Value} (ha : keyOk (.arr n) kd a = true) (hb : keyOk (.arr n) kd b = true) : (Op.equal kt a b).run P w = .ok (kEq a b) w := by
  obtain ⟨e, i, hu, hue, hi, hc⟩ := hk
  obtain ⟨xs, rfl, h1, hx⟩ := keyOk_arr ha
  obtain ⟨ys, rfl, h2, hy⟩ := keyOk_arr hb
  have := run_equalIn_array w 9999 xs ys hu hi
  show (Op.equalIn (9999 + 1) kt (.agg xs) (.agg ys)).run P w = _
  rw [this, hc, List.range_eq_range']
  have h := run_eqItems_ints (w := w) hue 9998 hx hy n 0 (by omega) (by omega)
  simpa [kEq] using h
theorem run_find {kst : KS} {kd : IntKind} {kt : TypeId} (hk : KeyT P kst kd kt) {k : Value} (hkv : keyOk kst kd k = true) {es : List (Value × Nat × AV)} {c : List Value} (hl : es.length ≤ c.length) (ho : ∀ e ∈ es, keyOk kst kd e.1 = true) :
    (Instr.findKey kt k ((es.zip c).map mkE)).run P w = .ok ((idxM k es).bind fun j => (c[j]?).map fun v => (0 + j, v)) w := by
  cases kst with
  | num =>
    obtain ⟨n, rfl⟩ := keyOk_num hkv
    refine MapKept.run_findKey hk (findNow_idx es c 0 hl fun e he => ?_)
    obtain ⟨m, hm⟩ := keyOk_num (ho e he)
    rw [hm]; simp [Instr.sameNow, kEq]
  | str =>
    obtain ⟨n, rfl⟩ := keyOk_str hkv
    refine MapKept.run_findKey hk (findNow_idx es c 0 hl fun e he => ?_)
    obtain ⟨m, hm⟩ := keyOk_str (ho e he)
    rw [hm]; simp [Instr.sameNow, kEq]
  | arr n =>
    have hw : (match P.underlying kt with | some (.array _ _) | some (.struct _) => true | _ => false) = true := by
      obtain ⟨e, i, hu, _⟩ := hk
      rw [hu]
    rw [run_findKey_eq w hw]
    exact findAsk_idx es c 0 hl fun e he => run_equal_arr hk hkv (ho e he)
theorem run_check {kst : KS} {kd : IntKind} {kt : TypeId} (hk : KeyT P kst kd kt) {k : Value} (hkv : keyOk kst kd k = true) (em : Bool) : (Instr.checkKey em 10000 kt k).run P w = .ok () w := by
  cases kst with
  | num =>
    obtain ⟨n, rfl⟩ := keyOk_num hkv
    exact MapKept.run_checkKey (k := .int kd n) hk (by simp [MapKept.IsKey]) em 9999
  | str =>
    obtain ⟨n, rfl⟩ := keyOk_str hkv
    exact MapKept.run_checkKey (k := .string n) hk (by simp [MapKept.IsKey]) em 9999
  | arr n =>
    obtain ⟨e, i, hu, hue, hi, hc⟩ := hk
    obtain ⟨xs, rfl, h1, hx⟩ := keyOk_arr hkv
    have hp : P.plainKey e = true := by simp [Program.plainKey, hue]
    show (Instr.checkKey em (9999 + 1) kt (.agg xs)).run P w = _
    rw [Instr.checkKey]
    simp only [Sem.run_bind, run_underlying hu, Result.andThen_ok]
    simp only [Std.Legacy.Range.forIn_eq_forIn_range', Std.Legacy.Range.size, Nat.sub_zero, Nat.add_one_sub_one, Nat.div_one]
    have each : ∀ j ∈ List.range' 0 n, j < n := fun j hj => by simpa using hj
    generalize List.range' 0 n = is at each
    induction is with
    | nil => simp
    | cons j is ih =>
      have hj : j < xs.toList.length := by have := each j (by simp); simp; omega
      obtain ⟨a, ha⟩ := hx _ (List.getElem_mem hj)
      have hxa : xs[j * 1]? = some (.int kd a) := by rw [Nat.mul_one, ← ha]; simp at hj; simp [hj]
      have hck : (Instr.checkKey em 9999 e (.int kd a)).run P w = .ok () w := MapKept.run_checkKey (k := .int kd a) hue (by simp [MapKept.IsKey]) em 9998
      simp only [List.forIn_cons, Sem.run_bind, run_sizeOf w hi, hc, Result.andThen_ok, run_part_plain w hp hxa, hck, Sem.run_pure]
      exact ih fun y hy => each y (by simp [hy])
theorem eqBits : ∀ (n : Nat) {kd : IntKind} (l : List Value), (∀ x ∈ l, ∃ m, x = .int kd m) → (l.zip l).all (fun (x, y) => Instr.sameBits n x y) = true
  | n, kd, [], _ => rfl
  | n, kd, x :: l, h => by
    obtain ⟨m, rfl⟩ := h x (by simp)
    have ih := eqBits n l fun x hx => h x (by simp [hx])
    simp only [List.zip_cons_cons, List.all_cons, ih, Bool.and_true]
    cases n <;> simp [Instr.sameBits]
theorem map_obj (hH : HSim I β H w) {id b : Nat} {ty z ck : Nat} {fz : Bool} {s : KS} {k : IntKind} {es : List (Value × Nat × AV)} (ho : H[id]? = some (some ⟨ty, z, fz, .mp s k es ck⟩)) (hb : β[id]? = some (some (b, 0))) :
    z = 1 ∧ (∀ e ∈ es, keyOk s k e.1 = true) ∧ ∃ c : Array Value, w.heap[b]? = some (.map ((es.zip c.toList).map mkE).toArray ck) ∧ es.length ≤ c.size ∧
      ∀ (i : Nat) e, es[i]? = some e → ∃ v, c[i]? = some v ∧ v.oneCell' = true ∧ ARel I β w e.2.2 v := by
  obtain ⟨hw, _, c, hc, hcell⟩ := obj_at0 hH ho hb
  obtain ⟨hz, hk⟩ := hw
  simp only at hz hk hc hcell
  subst hz
  have key : ∀ (i : Nat) e, es[i]? = some e → ∃ v, c[i]? = some v ∧ v.oneCell' = true ∧ ARel I β w e.2.2 v := fun i e he => by
    have := hcell i 0 e.2.2 (by simp [rowCell, he])
    simpa using this
  refine ⟨rfl, hk, c, hc, ?_, key⟩
  rcases Nat.lt_or_ge c.size es.length with h | h
  · obtain ⟨v, hv, _⟩ := key c.size _ (List.getElem?_eq_getElem h)
    simp at hv
  · exact h
theorem mp_inv {id : Nat} {v : Value} (h : ARel I β w (.mp id) v) : ∃ b, v = .map (some b) ∧ β[id]? = some (some (b, 0)) := by
  cases h with
  | mp hb => exact ⟨_, rfl, hb⟩
theorem tkOf_map {u : TypeDesc} {k e : TypeId} (h : TK.map k e = tkOf u) : u = .map k e := by cases u <;> simp [tkOf] at h; obtain ⟨rfl, rfl⟩ := h; rfl
theorem new_map (hH : HSim I β H w) {site : Nat} (hsite : β[site]? = some none) (t : TypeId) (s : KS) (k : IntKind) :
    Left_ I β w H (.mp site) [(site, some ⟨t, 1, false, .mp s k [] 0⟩)] (.map (some w.heap.size)) (w.alloc (.map #[] 0)) site := by
  obtain ⟨a, b⟩ := new_obj hH hsite t 1 (.mp s k [] 0) #[] ⟨rfl, fun e he => by simp at he⟩ (fun i j x hx => by simp [rowCell] at hx) (ob := .map #[] 0) rfl (.inl rfl)
  refine ⟨I, _, a, ?_, b, fun s hs hne => new_free hs hne⟩
  have hlt : site < β.length := (List.getElem?_eq_some_iff.1 hsite).1
  exact .mp (by rw [List.getElem?_set_self hlt])
theorem run_lookup_k {t kt et : TypeId} (hu : P.underlying t = some (.map kt et)) {s : KS} {kd : IntKind} (hk : KeyT P s kd kt) {b ck : Nat} {es : List (Value × Nat × AV)} {c : Array Value}
    (hb : w.heap[b]? = some (.map ((es.zip c.toList).map mkE).toArray ck)) (hl : es.length ≤ c.size) (ho : ∀ e ∈ es, keyOk s kd e.1 = true) {kv : Value} (hkv : keyOk s kd kv = true) {z : Value} (hz : (zeroValue et).run P w = .ok z w) (ok : Bool) :
    (Instr.lookup t (.map (some b)) kv ok).run P w = .ok (match (idxM kv es).bind (fun j => c[j]?) with
      | some v => if ok then .tuple #[v, .bool true] else v
      | none => if ok then .tuple #[z, .bool false] else z) w := by
  have hfk := run_find (P := P) (w := w) hk hkv (es := es) (c := c.toList) (by simpa using hl) ho
  have hck := fun e => run_check (P := P) (w := w) hk hkv e
  unfold Instr.lookup
  simp only [Sem.run_bind, run_underlying hu, Result.andThen_ok, MapKept.run_getObj_map hb, Sem.run_pure, hck, hfk]
  cases hi : idxM kv es with
  | none => cases ok <;> simp [hz]
  | some j =>
    obtain ⟨e, he, _⟩ := idxM_spec hkv ho hi
    have hj : j < c.size := by have := (List.getElem?_eq_some_iff.1 he).1; omega
    cases ok <;> simp [hj]
theorem vcMapLen_sound (hT : TabOk P T) (hH : HSim I β H w) {t ty0 : TypeId} {id : Nat} {vm : Value} {K : AV → Upd → List Nat → Prop} (hx : ARel I β w (.mp id) vm) (h : vcMapLen T t id H K) :
    ∃ r rd, K r [] rd ∧ Yields P I β w (Builtin.len_ #[t] ty0 #[vm]) r := by
  unfold vcMapLen at h
  simp only [eqv_eq] at h
  split at h
  · rename_i hl
    obtain ⟨i, u, z, hi, hu, _, _, hsz, _, hagg, htk, _⟩ := look_spec hT hl
    split at h
    · rename_i ho
      obtain rfl := tkOf_map htk
      obtain ⟨b, rfl, hb⟩ := mp_inv hx
      obtain ⟨_, _, c, hc, hlen, _⟩ := map_obj hH ho hb
      refine ⟨_, _, h, _, ?_, rel_int _ _⟩
      simp only [Builtin.len_, Sem.run_bind, run_underlying hu, Result.andThen_ok, MapKept.run_getObj_map hc, Sem.run_pure, List.getElem?_toArray, List.getElem?_cons_zero, goInt]
      simp [Nat.min_eq_left hlen]
    · exact h.elim
  · exact h.elim
theorem vcLookup_sound (hT : TabOk P T) (hH : HSim I β H w) {t : TypeId} {id : Nat} {vm : Value} {kv : Value} {K : AV → Upd → List Nat → Prop} (hx : ARel I β w (.mp id) vm) {commaOk : Bool}
    {size bytes : Nat} {agg : Bool} {kt et : TypeId} {zero : List PV} (hl : look T t = some ⟨size, bytes, agg, .map kt et, zero⟩) {ty z ck : Nat} {fz : Bool} {s : KS} {k : IntKind} {es : List (Value × Nat × AV)} (ho : H[id]? = some (some ⟨ty, z, fz, .mp s k es ck⟩))
    {a1 a2 : Nat} {a3 : Bool} {ktk : TK} {a4 : List PV} (hlk : look T kt = some ⟨a1, a2, a3, ktk, a4⟩) {b1 b2 : Nat} {b4 : TK} {z0 : PV} (hle : look T et = some ⟨b1, b2, false, b4, [z0]⟩) (hck : (keyTk T s k ktk && keyOk s k kv) = true)
    (h : match getM kv es with
            | some v => K (bif commaOk then .tup [v, vbool true] else v) [] [id]
            | none => K (bif commaOk then .tup [.pv z0, vbool false] else .pv z0) [] [id]) :
    ∃ r rd, K r [] rd ∧ Yields P I β w (Instr.lookup t vm kv commaOk) r := by
  have hck : keyTk T s k ktk = true ∧ keyOk s k kv = true := by simpa using hck
  obtain ⟨i0, u, zv, hi, hu, _, _, _, _, _, htk, _⟩ := look_spec hT hl
  obtain rfl := tkOf_map htk
  obtain ⟨ik, uk, zk, hik, huk, _, _, _, _, _, htkk, _⟩ := look_spec hT hlk
  obtain ⟨ie, ue, ze, hie, hue, hze, hzs, _, _, hagg, _, hz0⟩ := look_spec hT hle
  rw [htkk] at hck
  replace huk := keyTk_kind hT huk hck.1
  obtain ⟨b, rfl, hb⟩ := mp_inv hx
  obtain ⟨_, hko, c, hc, hlen, hcell⟩ := map_obj hH ho hb
  have hzc : (zeroValue et).run P w = .ok ze w := by simp [zeroValue, typeInfo, hie, hze]
  have hz1 : PV.val ze = z0 := by
    rw [tyOf_zero (hT.1 _ _ hle) hie hze] at hz0
    simpa using hz0.symm
  have hrun := run_lookup_k hu huk hc hlen hko hck.2 hzc commaOk
  rw [getM_idx] at h
  cases hidx : idxM kv es with
  | none =>
    rw [hidx] at h hrun
    simp only [Option.bind_none] at h hrun
    refine ⟨_, _, h, _, hrun, ?_⟩
    rw [← hz1]
    cases commaOk
    · exact rel_val _
    · refine .tup rfl fun j c hj => ?_
      match j, hj with
      | 0, hj => simp at hj; subst hj; exact rel_val _
      | 1, hj => simp at hj; subst hj; exact rel_bool _
  | some j =>
    rw [hidx] at h hrun
    obtain ⟨e, he, _⟩ := idxM_spec hck.2 hko hidx
    obtain ⟨v, hv, _, hr⟩ := hcell j e he
    simp only [Option.bind_some, he, hv, Option.map_some] at h hrun
    refine ⟨_, _, h, _, hrun, ?_⟩
    cases commaOk
    · exact hr
    · refine .tup rfl fun j c hj => ?_
      match j, hj with
      | 0, hj => simp at hj; subst hj; exact hr
      | 1, hj => simp at hj; subst hj; exact rel_bool _
theorem zip_get {α γ : Type} : ∀ (a : List α) (b : List γ) (i : Nat), (a.zip b)[i]? = (a[i]?).bind fun x => (b[i]?).map fun y => (x, y)
  | [], b, i => by simp
  | x :: a, [], i => by simp
  | x :: a, y :: b, 0 => by simp
  | x :: a, y :: b, i + 1 => by simp [zip_get a b i]
theorem keyThat {kst : KS} {kd : IntKind} {k : Value} (hk : keyOk kst kd k = true) : (Instr.keyThatStays k k).run P w = .ok k w := by
  cases kst with
  | num =>
    obtain ⟨n, rfl⟩ := keyOk_num hk
    exact MapKept.run_keyThatStays (d := .int kd) (by simp [MapKept.IsKey])
  | str =>
    obtain ⟨n, rfl⟩ := keyOk_str hk
    exact MapKept.run_keyThatStays (d := .string) (by simp [MapKept.IsKey])
  | arr n =>
    obtain ⟨xs, rfl, h1, hx⟩ := keyOk_arr hk
    have : Instr.sameBits 10000 (.agg xs) (.agg xs) = true := by
      show (xs.size == xs.size && (xs.toList.zip xs.toList).all fun (x, y) => Instr.sameBits 9999 x y) = true
      rw [eqBits 9999 xs.toList hx]; simp
    simp [Instr.keyThatStays, this]
theorem vcMapUpdate_sound (hT : TabOk P T) (hH : HSim I β H w) {t : TypeId} {id : Nat} {vm kv vx : Value} {x : AV} (hm : ARel I β w (.mp id) vm) (hx : ARel I β w x vx)
    {size bytes : Nat} {agg : Bool} {kt et : TypeId} {zero : List PV} (hl : look T t = some ⟨size, bytes, agg, .map kt et, zero⟩) {ty z ck : Nat} {fz : Bool} {s : KS} {k : IntKind} {es : List (Value × Nat × AV)} (ho : H[id]? = some (some ⟨ty, z, fz, .mp s k es ck⟩))
    {a1 a2 : Nat} {a3 : Bool} {ktk : TK} {a4 : List PV} (hlk : look T kt = some ⟨a1, a2, a3, ktk, a4⟩) (hck : (keyTk T s k ktk && keyOk s k kv) = true) (hfz : fz = false) (hone : oneCell x = true) (site : Nat) :
    ∃ w', (Instr.mapUpdate t vm kv vx).run P w = .ok () w' ∧ Left_ I β w H (.pv (.val undef)) [(id, some ⟨ty, z, fz, .mp s k (putM kv x ck es) (ckM kv ck es)⟩)] undef w' site := by
  have hck : keyTk T s k ktk = true ∧ keyOk s k kv = true := by simpa using hck
  obtain ⟨i0, u, zv, hi, hu, _, _, _, _, _, htk, _⟩ := look_spec hT hl
  obtain rfl := tkOf_map htk
  obtain ⟨ik, uk, zk, hik, huk, _, _, _, _, _, htkk, _⟩ := look_spec hT hlk
  rw [htkk] at hck
  replace huk := keyTk_kind hT huk hck.1
  obtain ⟨b, rfl, hb⟩ := mp_inv hm
  obtain ⟨hz, hko, c, hc, hlen, hcell⟩ := map_obj hH ho hb
  subst hz
  obtain ⟨hv1, _⟩ := one_rel hone hx
  have hfk := run_find (P := P) (w := w) huk hck.2 (es := es) (c := c.toList) (by simpa using hlen) hko
  have hckk := fun e => run_check (P := P) (w := w) huk hck.2 e
  -- what is left
  have fin : ∀ (es' : List (Value × Nat × AV)) (ck' : Nat) (arr : Array Value), (∀ e ∈ es', keyOk s k e.1 = true) → (∀ (i : Nat) e, es'[i]? = some e → ∃ v, arr[i]? = some v ∧ v.oneCell' = true ∧ ARel I β w e.2.2 v) →
      Left_ I β w H (.pv (.val undef)) [(id, some ⟨ty, 1, fz, .mp s k es' ck'⟩)] undef { w with heap := w.heap.setIfInBounds b (.map ((es'.zip arr.toList).map mkE).toArray ck') } site := fun es' ck' arr h1 h2 => by
    obtain ⟨e1, e2⟩ := MapKept.heap_set (o' := .map ((es'.zip arr.toList).map mkE).toArray ck') hc
    obtain ⟨g1, g2⟩ := heap_upd (on := ⟨ty, 1, fz, .mp s k es' ck'⟩) (arr := arr) (tgt := id) (b2 := (b, 0)) (β2 := β) (H2 := H.set id (some ⟨ty, 1, fz, .mp s k es' ck'⟩)) (w' := { w with heap := w.heap.setIfInBounds b (.map ((es'.zip arr.toList).map mkE).toArray ck') })
      hH ho hb rfl hfz hfz e1 (fun t n hs => by simp [World.shape?, hc] at hs) e2 (by simp) rfl rfl rfl (Nat.le_refl _) (by simp [hH.len]) (fun i b h => h)
      (fun i o2 ho2 => by
        by_cases h : id = i
        · subst h
          rw [List.getElem?_set_self (List.getElem?_eq_some_iff.1 ho).1] at ho2
          injection ho2 with ho2; injection ho2 with ho2
          exact .inr ⟨rfl, ho2.symm⟩
        · rw [List.getElem?_set_ne h] at ho2
          exact .inl ⟨ho2, fun e => h e.symm⟩) hb (fun i b' h => .inl h) ⟨rfl, h1⟩ (fun i j y hy => by
        simp only [rowCell] at hy
        split at hy
        · rename_i hj; subst hj
          simp only [Option.map_eq_some_iff] at hy
          obtain ⟨e, he, rfl⟩ := hy
          simpa using h2 i e he
        · cases hy)
    exact ⟨I, β, g1, rel_val _, g2, fun s hs _ => hs⟩
  unfold Instr.mapUpdate
  simp only [Sem.run_bind, run_underlying hu, Result.andThen_ok, MapKept.run_getObj_map hc, hckk, hfk]
  rw [putM_idx]
  cases hidx : idxM kv es with
  | none =>
    have hg : getM kv es = none := by rw [getM_idx, hidx]; rfl
    simp only [Option.bind_none, MapKept.run_setObj_map _ hc, ckM, hg]
    refine ⟨_, rfl, ?_⟩
    have e : ((es.zip c.toList).map mkE).toArray.push { key := kv, val := vx, born := ck } = (((es ++ [(kv, ck, x)]).zip ((c.toList.take es.length ++ [vx]).toArray).toList).map mkE).toArray := by
      apply Array.toList_inj.1
      simp only [Array.toList_push, List.map_append]
      rw [List.zip_append (by simp; omega)]
      simp only [List.map_append, List.zip_cons_cons, List.zip_nil_left, List.map_cons, List.map_nil]
      congr 2
      apply List.ext_getElem?
      intro i
      rw [zip_get, zip_get]
      rcases Nat.lt_or_ge i es.length with h | h
      · rw [List.getElem?_take_of_lt h]
      · simp [List.getElem?_eq_none h]
    rw [e]
    refine fin _ _ _ (fun e he => ?_) (fun i e he => ?_)
    · rcases List.mem_append.1 he with he | he
      · exact hko e he
      · simp at he; subst he; exact hck.2
    · rcases Nat.lt_or_ge i es.length with h | h
      · rw [List.getElem?_append_left h] at he
        obtain ⟨v, hv, h1, h2⟩ := hcell i e he
        refine ⟨v, ?_, h1, h2⟩
        simp only [List.getElem?_toArray]
        rw [List.getElem?_append_left (by simp; omega), List.getElem?_take_of_lt h]
        simpa using hv
      · rw [List.getElem?_append_right h] at he
        have h0 : i - es.length = 0 := by
          have := (List.getElem?_eq_some_iff.1 he).1; simp at this; omega
        rw [h0] at he; simp at he; subst he
        refine ⟨vx, ?_, hv1, hx⟩
        simp only [List.getElem?_toArray]
        rw [List.getElem?_append_right (by simp; omega)]
        have : i - (List.take es.length c.toList).length = 0 := by simp; omega
        rw [this]; rfl
  | some j =>
    obtain ⟨e, he, hek⟩ := idxM_spec hck.2 hko hidx
    obtain ⟨v, hv, hv2, hr⟩ := hcell j e he
    have hj : j < es.length := (List.getElem?_eq_some_iff.1 he).1
    have hg : getM kv es = some e.2.2 := by rw [getM_idx, hidx]; simp [he]
    have hcj : c.toList[j]? = some v := by simpa using hv
    have hent : ((es.zip c.toList).map mkE).toArray[j]? = some (mkE (e, v)) := by
      simp only [List.getElem?_toArray, List.getElem?_map, zip_get, he, hcj, Option.bind_some, Option.map_some]
    simp only [Option.bind_some, hcj, Option.map_some, Nat.zero_add, hent, Option.getD_some, hek, keyThat hck.2, Sem.run_bind, Result.andThen_ok, MapKept.run_setObj_map _ hc, ckM, hg]
    refine ⟨_, rfl, ?_⟩
    have e2 : ((es.zip c.toList).map mkE).toArray.modify j (fun e => { e with key := kv, val := vx }) = (((es.modify j fun e => (kv, e.2.1, x)).zip (c.setIfInBounds j vx).toList).map mkE).toArray := by
      apply Array.ext_getElem?
      intro i
      rw [Array.getElem?_modify]
      simp only [List.getElem?_toArray, List.getElem?_map, Array.toList_setIfInBounds, zip_get, List.getElem?_modify, List.getElem?_set]
      by_cases hij : j = i
      · subst hij
        have : j < c.toList.length := (List.getElem?_eq_some_iff.1 hcj).1
        simp [he, hcj, this, (Array.getElem?_eq_some_iff.1 hv).1]
      · simp only [if_neg hij]
        simp
    rw [e2]
    refine fin _ _ _ (fun e' he' => ?_) (fun i e' he' => ?_)
    · obtain ⟨i, hi, rfl⟩ := List.getElem_of_mem he'
      rw [List.getElem_modify]
      split
      · exact hck.2
      · exact hko _ (List.getElem_mem _)
    · rw [List.getElem?_modify] at he'
      have hjc : j < c.size := (Array.getElem?_eq_some_iff.1 hv).1
      by_cases hij : j = i
      · subst hij
        rw [he] at he'
        simp at he'; subst he'
        exact ⟨vx, by simp [hjc], hv1, hx⟩
      · simp only [if_neg hij, id_map'] at he'
        obtain ⟨v', h1, h2, h3⟩ := hcell i e' (by simpa using he')
        exact ⟨v', by simp [hij, h1], h2, h3⟩
theorem index_string {t : TypeId} {s : ByteArray} {k : IntKind} {j : Nat} {b : UInt8} (hu : P.underlying t = some .string) (hb : s[j]? = some b) : (Instr.index t (.string s) (.int k j)).run P w = .ok (.int .u8 b.toNat) w := by
  have h0 : (0 : Int) ≤ (j : Int) := Int.natCast_nonneg _
  simp [Instr.index, asIntOf, run_underlying hu, hb]
theorem part_take {e : TypeId} {ie : TypeInfo} {ue : TypeDesc} (hie : P.info? e = some ie) (hue : P.underlying e = some ue) {vs : Array Value} {cs : List AV} (hlen : vs.size = cs.length) (hcs : ∀ (j : Nat) c, cs[j]? = some c → ARel I β w c (vs.getD j undef)) {off : Nat} {K : AV → Prop}
    (h : vcTake ie.size (isAggD ue) (cs.drop off) K) : ∃ r, K r ∧ Yields P I β w (part e vs off) r := by
  unfold vcTake at h
  split at h
  · rename_i hag2
    split at h
    · rename_i hb
      have hle := Nat.le_of_ble_eq_true hb
      simp only [List.length_drop] at hle
      refine ⟨_, h, .agg (vs.extract off (off + ie.size)), ?_, .agg ?_ (fun j c hj => ?_)⟩
      · unfold part
        simp [run_isAgg hue, hag2, sizeOf, typeInfo, hie]
      · simp; omega
      · have hlt : j < ie.size := by
          have := (List.getElem?_eq_some_iff.1 hj).1
          simp at this; omega
        rw [List.getElem?_take_of_lt hlt, List.getElem?_drop] at hj
        have hh := hcs _ _ hj
        have hj2 := (List.getElem?_eq_some_iff.1 hj).1
        have e : (vs.extract off (off + ie.size)).getD j undef = vs.getD (off + j) undef := by
          have h1 : off + j < vs.size := by omega
          have h2 : j < min (off + ie.size) vs.size - off := by omega
          simp [h1, h2]
        rw [e]; exact hh
    · exact h.elim
  · rename_i hag2
    split at h
    · rename_i c l hd
      have hj : cs[off]? = some c := by
        have := congrArg (·[0]?) hd
        simpa [List.getElem?_drop] using this
      have hlt := (List.getElem?_eq_some_iff.1 hj).1
      have hv : off < vs.size := by omega
      refine ⟨_, h, vs.getD off undef, ?_, hcs _ _ hj⟩
      unfold part
      simp [run_isAgg hue, hag2, hv]
    · exact h.elim
theorem index_array {t e : TypeId} {len : Nat} {k : IntKind} {j : Nat} {xs : List AV} {v : Value} (hx : ARel I β w (.agg xs) v) (hu : P.underlying t = some (.array len e)) {ie : TypeInfo} {ue : TypeDesc} (hie : P.info? e = some ie) (hue : P.underlying e = some ue)
    (hj : j < len) {K : AV → Prop} (h : vcTake ie.size (isAggD ue) (xs.drop (j * ie.size)) K) : ∃ r, K r ∧ Yields P I β w (Instr.index t v (.int k j)) r := by
  cases hx with
  | agg hl hr =>
    obtain ⟨r, h1, v, h2, h3⟩ := part_take hie hue hl hr h
    exact ⟨r, h1, v, by simp [Instr.index, asIntOf, run_underlying hu, hj, sizeOf, typeInfo, hie, h2], h3⟩
theorem push_all : ∀ (l : List UInt8) (acc : ByteArray), (l.map fun x => ((x.toNat : Nat) : Int)).foldl (fun r n => r.push (UInt8.ofNat n.toNat)) acc = ⟨(acc.data.toList ++ l).toArray⟩
  | [], acc => by cases acc; simp
  | x :: l, acc => by
    simp only [List.map_cons, List.foldl_cons, push_all l]
    congr 1
    cases acc
    simp [ByteArray.push]
theorem conv_bytes (hH : HSim I β H w) {src dst e : TypeId} (hs : P.underlying src = some (.slice e)) (he : P.underlying e = some (.int .u8)) (hd : P.underlying dst = some .string) {x : AV} {v : Value} {rd : List Nat} {b : ByteArray} (hx : ARel I β w x v) (hok : srcOk 1 x = true) (hrows : srcRows H x = some (.p (bytesRows b), rd)) (hl : srcLen x = (bytesRows b).length) :
    (convert src dst v).run P w = .ok (.string b) w := by
  obtain ⟨news, hsrc⟩ := src_of hH hx hok hrows hl
  have hnews : news = (bts b).map fun x => Value.int .u8 x.toNat := by
    apply List.ext_getElem?
    intro i
    rcases Nat.lt_or_ge i (bts b).length with h | h
    · obtain ⟨u, hu, _, hr⟩ := hsrc.cell i 0 (.pv (.val (.int .u8 ((bts b)[i]).toNat))) (by simp only [rowCell, bytesRows, List.getElem?_map, List.getElem?_eq_getElem h]; rfl)
      have := val_inv hr
      subst this
      simp only [Nat.mul_one, Nat.add_zero] at hu
      rw [hu, List.getElem?_map, List.getElem?_eq_getElem h]; rfl
    · have := hsrc.len
      simp only [rowsLen, bytesRows, List.length_map, Nat.mul_one] at this
      rw [List.getElem?_eq_none (by omega), List.getElem?_eq_none (by simpa using h)]
  have hm : news.length = rowsLen (.p (bytesRows b)) := by rw [hsrc.len, Nat.mul_one]
  rcases hsrc.form with ⟨c, rfl, h0⟩ | ⟨a, c, rfl, hcells⟩
  · rw [run_convert_bytes_string w src dst e none _ c hs he hd]
    have hb0 : bts b = [] := List.eq_nil_of_length_eq_zero (by simpa [rowsLen, bytesRows] using h0)
    have : b = ByteArray.empty := by
      cases b; simp [bts] at hb0; subst hb0; rfl
    subst this
    simp [Conv.bytesToString]
  · rw [run_convert_bytes_string w src dst e _ _ c hs he hd]
    have hld := run_loadCells_list (P := P) w a news hcells
    rw [hm, hnews] at hld
    have e2 : (bts b).map (fun x => Value.int .u8 x.toNat) = ((bts b).map fun x => ((x.toNat : Nat) : Int)).map (Value.int .u8) := by rw [List.map_map]; rfl
    rw [e2] at hld
    have := run_bytesToString (P := P) w a (rowsLen (.p (bytesRows b))) c _ hld
    rw [push_all] at this
    rw [this]
    cases b
    simp [bts]
end
end Go.Cw
/-
  Cw, part R: every operation but a call of a function does what 'vcOp' says.
-/
namespace Go.Cw
set_option linter.unusedVariables false
section
variable {P : Program} {T : Tab} {I : Nat → Prop} {β : Beta} {w : World} {H : Heap}
def OpOut (P : Program) (I : Nat → Prop) (β : Beta) (w : World) (H : Heap) (a : Act) (o : Oper) (r : AV) (u : Upd) (site : Nat) : Prop :=
  ∃ nx v w', (execOp a.eval o).run P w = .ok nx w' ∧ (nx = .value v ∨ (nx = .skip ∧ v = undef)) ∧ Left_ I β w H r u v w' site
theorem OpOut.pure {a : Act} {o : Oper} {r : AV} {v : Value} {site : Nat} (hH : HSim I β H w) (hrun : (execOp a.eval o).run P w = .ok (.value v) w) (hr : ARel I β w r v) : OpOut P I β w H a o r [] site :=
  ⟨_, v, w, hrun, .inl rfl, Left_.same hH hr⟩
theorem mapM_spec {ρ : Operand → Option AV} : ∀ {l : List Operand} {vs : List AV}, l.mapM ρ = some vs → vs.length = l.length ∧ ∀ (j : Nat) x, l[j]? = some x → ∃ v, vs[j]? = some v ∧ ρ x = some v
  | [], vs, h => by simp at h; subst h; simp
  | x :: l, vs, h => by
    simp only [List.mapM_cons, Option.bind_eq_bind, Option.bind_eq_some_iff, Option.pure_def, Option.some.injEq] at h
    obtain ⟨v, hv, vs', hvs, rfl⟩ := h
    obtain ⟨h1, h2⟩ := mapM_spec hvs
    refine ⟨by simp [h1], fun j y hy => ?_⟩
    cases j with
    | zero => simp at hy; subst hy; exact ⟨v, rfl, hv⟩
    | succ j => exact h2 j y (by simpa using hy)
theorem vcMore_sound (hT : TabOk P T) (hH : HSim I β H w) {a : Act} {ρ : Operand → Option AV} (hρ : ∀ x v, ρ x = some v → ARel I β w v (a.eval x)) {dst : Option Tmp} {op : Op} {oty : TypeId} {pos : String} {after : Array Edge} {guard : Option (Nat × Bool)} {site : Nat} (hsite : isAlloc op = true → β[site]? = some none)
    {K : AV → Upd → List Nat → Prop} (h : vcMore T site op ρ H K) : ∃ r u rd, K r u rd ∧ OpOut P I β w H a ⟨dst, op, oty, pos, after, guard⟩ r u (bif isAlloc op then site else β.length) := by
  have yield : ∀ {x : Sem Value} {r : AV}, Yields P I β w x r → (∀ v, x.run P w = .ok v w → (execOp a.eval ⟨dst, op, oty, pos, after, guard⟩).run P w = .ok (.value v) w) →
      OpOut P I β w H a ⟨dst, op, oty, pos, after, guard⟩ r [] (bif isAlloc op then site else β.length) := fun hy hrun => by
    obtain ⟨v, hv, hr⟩ := hy
    exact OpOut.pure hH (hrun v hv) hr
  unfold vcMore at h
  split at h
  · -- index
    rename_i t x i
    split at h
    · rename_i h1 h2 hl
      obtain ⟨i0, u, zv, hi, hu, _, _, _, _, _, htk, _⟩ := look_spec hT hl
      split at h
      · obtain rfl := tkOf_str htk
        obtain ⟨j, b, rfl, hb, hk⟩ := h
        have e1 := val_inv (hρ _ _ h1); have e2 := val_inv (hρ _ _ h2)
        exact ⟨_, _, _, hk, OpOut.pure hH (by simp [execOp, e1, e2, index_string hu hb]) (rel_int _ _)⟩
      · exact h.elim
    · rename_i kk nn s1 b1 a1 t1 z1 h1 h2 hl
      obtain ⟨i0, u, zv, hi, hu, _, _, _, _, _, htk, _⟩ := look_spec hT hl
      split at h
      · obtain rfl := tkOf_array htk
        split at h
        · rename_i hle
          obtain ⟨ie, ue, ze, hie, hue, _, _, hse, _, hag, _, _⟩ := look_spec hT hle
          subst hse; subst hag
          split at h
          · obtain ⟨j, rfl, hj, hle2, h⟩ := h
            have e2 := val_inv (hρ _ _ h2)
            obtain ⟨r, hk, hy⟩ := index_array (k := kk) (hρ _ _ h1) hu hie hue hj h
            exact ⟨_, _, _, hk, yield hy fun v hv => by simp [execOp, e2, hv]⟩
          · exact h.elim
        · exact h.elim
      · exact h.elim
    · exact h.elim
  · -- convert
    rename_i s d x
    split at h
    · rename_i h1 hs hd
      obtain ⟨i1, u1, z1, _, hu1, _, _, _, _, _, ht1, _⟩ := look_spec hT hs
      obtain ⟨i2, u2, z2, _, hu2, _, _, _, _, _, ht2, _⟩ := look_spec hT hd
      split at h
      · obtain rfl := tkOf_int ht1; obtain rfl := tkOf_int ht2
        have e1 := val_inv (hρ _ _ h1)
        rw [eqv_eq] at h
        exact ⟨_, _, _, h, OpOut.pure hH (by simp [execOp, e1, convert, run_underlying hu1, run_underlying hu2, Conv.intToInt]) (rel_int _ _)⟩
      · exact h.elim
    · rename_i h1 hs hd
      obtain ⟨i1, u1, z1, _, hu1, _, _, _, _, _, ht1, _⟩ := look_spec hT hs
      obtain ⟨i2, u2, z2, _, hu2, _, _, _, _, _, ht2, _⟩ := look_spec hT hd
      split at h
      · obtain rfl := tkOf_str ht1; obtain rfl := tkOf_str ht2
        have e1 := val_inv (hρ _ _ h1)
        exact ⟨_, _, _, h, OpOut.pure hH (by simp [execOp, e1, convert, run_underlying hu1, run_underlying hu2]) (rel_val _)⟩
      · exact h.elim
    · rename_i v hns hni h1 hs hd
      obtain ⟨i1, u1, z1, _, hu1, _, _, _, _, _, ht1, _⟩ := look_spec hT hs
      obtain ⟨i2, u2, z2, _, hu2, _, _, _, _, _, ht2, _⟩ := look_spec hT hd
      split at h
      · obtain rfl := tkOf_slice ht1; obtain rfl := tkOf_str ht2
        split at h
        · rename_i hle
          obtain ⟨ie, ue, ze, hie, hue, _, _, hse, _, hag, hte, _⟩ := look_spec hT hle
          split at h
          · rename_i hok hrows
            obtain rfl := tkOf_int hte
            obtain ⟨b, hb, hl, h⟩ := h
            subst hb
            have := conv_bytes hH hu1 hue hu2 (hρ _ _ h1) hok hrows hl
            exact ⟨_, _, _, h, OpOut.pure hH (by simp [execOp, this]) (rel_val _)⟩
          · exact h.elim
        · exact h.elim
      · exact h.elim
    · exact h.elim
  · -- makeMap
    rename_i t
    split at h
    · rename_i hl
      obtain ⟨i0, u, zv, hi, hu, _, _, _, _, _, htk, _⟩ := look_spec hT hl
      split at h
      · obtain rfl := tkOf_map htk
        split at h
        · split at h
          · exact ⟨_, _, _, h, _, _, _, by simp [execOp, Instr.makeMap], .inl rfl, new_map hH (hsite rfl) t .str .i64⟩
          · exact ⟨_, _, _, h, _, _, _, by simp [execOp, Instr.makeMap], .inl rfl, new_map hH (hsite rfl) t .num _⟩
          · split at h
            · exact ⟨_, _, _, h, _, _, _, by simp [execOp, Instr.makeMap], .inl rfl, new_map hH (hsite rfl) t (.arr _) _⟩
            · exact h.elim
          · exact h.elim
        · exact h.elim
      · exact h.elim
    · exact h.elim
  · -- lookup
    rename_i t x i ok
    split at h
    · rename_i h1 h2 hl
      split at h
      · rename_i ho
        split at h
        · rename_i hlk hle
          split at h
          · rename_i hck
            rw [eqv_eq] at h
            have e2 := key_inv hρ h2
            obtain ⟨r, rd, hk, hy⟩ := vcLookup_sound (commaOk := ok) hT hH (hρ _ _ h1) hl ho hlk hle hck h
            exact ⟨_, _, _, hk, yield hy fun v hv => by simp [execOp, e2, hv]⟩
          · exact h.elim
        · exact h.elim
      · exact h.elim
    · exact h.elim
  · -- mapUpdate
    rename_i t m i x
    split at h
    · rename_i h1 h2 h3 hl
      split at h
      · rename_i ho
        split at h
        · rename_i hlk
          split at h
          · rename_i hck hck2
            simp only [eqv_eq] at h
            simp only [Bool.and_eq_true, Bool.not_eq_true'] at hck2
            have e2 := key_inv hρ h2
            obtain ⟨w', hrun, hleft⟩ := vcMapUpdate_sound hT hH (hρ _ _ h1) (hρ _ _ h3) hl ho hlk hck hck2.1 hck2.2 β.length
            exact ⟨_, _, _, h, .skip, undef, w', by simp [execOp, e2, hrun], .inr ⟨rfl, rfl⟩, hleft⟩
          · exact h.elim
        · exact h.elim
      · exact h.elim
    · exact h.elim
  · exact h.elim
theorem vcOp_sound (hT : TabOk P T) (hH : HSim I β H w) {a : Act} {ρ : Operand → Option AV} (hρ : ∀ x v, ρ x = some v → ARel I β w v (a.eval x)) {o : Oper} {site : Nat} (hsite : isAlloc o.op = true → β[site]? = some none)
    {K : AV → Upd → List Nat → Prop} (h : vcOp T site o.op ρ H K) : ∃ r u rd, K r u rd ∧ OpOut P I β w H a o r u (bif isAlloc o.op then site else β.length) := by
  obtain ⟨dst, op, oty, pos, after, guard⟩ := o
  dsimp only at h hsite ⊢
  have yield : ∀ {x : Sem Value} {r : AV}, Yields P I β w x r → (∀ v, x.run P w = .ok v w → (execOp a.eval ⟨dst, op, oty, pos, after, guard⟩).run P w = .ok (.value v) w) →
      OpOut P I β w H a ⟨dst, op, oty, pos, after, guard⟩ r [] (bif isAlloc op then site else β.length) := fun hy hrun => by
    obtain ⟨v, hv, hr⟩ := hy
    exact OpOut.pure hH (hrun v hv) hr
  unfold vcOp at h
  split at h
  · -- move
    split at h
    · rename_i v hv
      exact ⟨_, _, _, h, OpOut.pure hH (by simp [execOp]) (hρ _ _ hv)⟩
    · exact h.elim
  · -- assign
    split at h
    · rename_i v hv
      exact ⟨_, _, _, h, OpOut.pure hH (by simp [execOp]) (hρ _ _ hv)⟩
    · exact h.elim
  · -- pick
    rename_i c x y
    split at h
    · rename_i vc hc
      unfold vcPick at h
      split at h
      · rename_i t
        have hcv := val_inv (hρ _ _ hc)
        cases t
        · have h := h.2 rfl
          split at h
          · rename_i v hv
            exact ⟨_, _, _, h, OpOut.pure hH (by simp [execOp, hcv, asBool]) (hρ _ _ hv)⟩
          · exact h.elim
        · have h := h.1 rfl
          split at h
          · rename_i v hv
            exact ⟨_, _, _, h, OpOut.pure hH (by simp [execOp, hcv, asBool]) (hρ _ _ hv)⟩
          · exact h.elim
      · exact h.elim
    · exact h.elim
  · -- alloc
    rename_i t
    split at h
    · rename_i size bytes agg tk zero hl
      obtain ⟨i, u, z, hi, hu, hz, hzs, hsz, _, _, _, hzero⟩ := look_spec hT hl
      obtain ⟨hone, h⟩ := h
      have hcr : CRel I β w (pvs zero) z.cells := by rw [hzero]; exact CRel.zero
      have hl2 : (pvs zero).length = size := by rw [← hcr.1, hzs, hsz]
      have h1 : ∀ u ∈ z.cells.toList, u.oneCell' = true := fun u hu => by
        obtain ⟨j, hj, rfl⟩ := List.getElem_of_mem hu
        simp only [Array.length_toList] at hj
        have hlt : j < (pvs zero).length := by rw [← hcr.1]; exact hj
        obtain ⟨v, hv, hr⟩ := hcr.2 j _ (List.getElem?_eq_getElem hlt)
        have e : z.cells.toList[j] = v := by
          have := (Array.getElem?_eq_some_iff.1 hv).2
          simpa using this
        rw [e]; exact (one_rel (allOne_get hone (List.getElem?_eq_getElem hlt)) hr).1
      have hb := new_box hH (hsite rfl) t hcr h1
      rw [hl2] at hb
      exact ⟨_, _, _, h, _, _, _, by simp [execOp, run_alloc hi hz], .inl rfl, hb⟩
    · exact h.elim
  · -- box
    rename_i t x
    split at h
    · rename_i size bytes agg tk zero v hl hv
      split at h
      · rename_i hck
        simp only [Bool.and_eq_true] at hck
        have hlen := Nat.eq_of_beq_eq_true hck.1
        have hb := new_box hH (hsite rfl) t (CRel.of_cells hck.2 (hρ _ _ hv)) (cells_rel hck.2 (hρ _ _ hv)).2.2
        rw [hlen] at hb
        exact ⟨_, _, _, h, _, _, _, by simp [execOp, run_box], .inl rfl, hb⟩
      · exact h.elim
    · exact h.elim
  · -- build
    rename_i t parts
    unfold vcBuild at h
    split at h
    · rename_i size bytes agg tk zero hl
      split at h
      · rename_i fs
        split at h
        · rename_i cs h1 h2
          obtain ⟨r, hk, hy⟩ := vcBuild_struct (K := fun r => K r [] []) hT (val := a.eval) hρ hl h1 h2 h
          refine ⟨_, _, _, hk, yield hy fun v hv => ?_⟩
          have e : (parts.toList.toArray.map fun x => match x with | (i, x) => (i, a.eval x)) = parts.map fun x => match x with | (i, x) => (i, a.eval x) := by simp
          rw [e] at hv
          simp [execOp, hv]
        · exact h.elim
      · rename_i n e
        split at h
        · rename_i esize ebytes eagg etk ezero hle
          split at h
          · rename_i cs h2
            obtain ⟨r, hk, hy⟩ := vcBuild_array (K := fun r => K r [] []) hT (val := a.eval) hρ hl hle h2 h
            refine ⟨_, _, _, hk, yield hy fun v hv => ?_⟩
            have e : (parts.toList.toArray.map fun x => match x with | (i, x) => (i, a.eval x)) = parts.map fun x => match x with | (i, x) => (i, a.eval x) := by simp
            rw [e] at hv
            simp [execOp, hv]
          · exact h.elim
        · exact h.elim
      · exact h.elim
    · exact h.elim
  · -- buildSlice
    rename_i t len parts
    split at h
    · rename_i size bytes agg tk zero hl
      split at h
      · rename_i e
        split at h
        · rename_i esize ebytes _ _ ezero hle
          split at h
          · rename_i rs hrs
            split at h
            · rename_i hck
              simp only [Bool.and_eq_true] at hck
              obtain ⟨v', w', hrun, hleft⟩ := vcBuildSlice_sound hT hH (hsite rfl) (val := a.eval) hρ hl hle hrs (Nat.eq_of_beq_eq_true hck.1) (Nat.le_of_ble_eq_true hck.2.1) (Nat.le_of_ble_eq_true hck.2.2)
              refine ⟨_, _, _, h, .value v', v', w', ?_, .inl rfl, hleft⟩
              have e : (parts.toList.toArray.map fun x => match x with | (i, x) => (i, a.eval x)) = parts.map fun x => match x with | (i, x) => (i, a.eval x) := by simp
              rw [e] at hrun
              simp [execOp, hrun]
            · exact h.elim
          · exact h.elim
        · exact h.elim
      · exact h.elim
    · exact h.elim
  · -- load
    split at h
    · rename_i v hv
      obtain ⟨r, rd, hk, hy⟩ := vcLoad_sound hT hH (hρ _ _ hv) h
      exact ⟨_, _, _, hk, yield hy fun v hv => by simp [execOp, hv]⟩
    · exact h.elim
  · -- store
    split at h
    · rename_i va vx h1 h2
      obtain ⟨u, rd, hk, w', hrun, hleft⟩ := vcStore_sound hT hH (hρ _ _ h1) (hρ _ _ h2) β.length h
      exact ⟨_, _, _, hk, .skip, undef, w', by simp [execOp, hrun], .inr ⟨rfl, rfl⟩, hleft⟩
    · exact h.elim
  · -- nilCheck
    split at h
    · rename_i id z row col hv
      obtain ⟨b, hb, he⟩ := ptr_inv (hρ _ _ hv)
      exact ⟨_, _, _, h, OpOut.pure hH (by simp only [execOp, he]; rfl) (he ▸ hρ _ _ hv)⟩
    · rename_i cs hv
      obtain ⟨b, he, _⟩ := ia_inv (hρ _ _ hv)
      exact ⟨_, _, _, h, OpOut.pure hH (by simp only [execOp, he]; rfl) (he ▸ hρ _ _ hv)⟩
    · rename_i f caps hv
      have hr := hρ _ _ hv
      cases hr with
      | pv hp =>
        generalize he : a.eval _ = u at hp
        cases hp with
        | fn hl hc =>
          exact ⟨_, _, _, h, OpOut.pure hH (by simp only [execOp, he]; rfl) (.pv (.fn hl hc))⟩
    · rename_i f caps hv
      have hr := hρ _ _ hv
      generalize he : a.eval _ = u at hr
      cases hr with
      | fn hl hc => exact ⟨_, _, _, h, OpOut.pure hH (by simp only [execOp, he]; rfl) (.fn hl hc)⟩
    · exact h.elim
  · -- binOp
    rename_i op t x y yt
    split at h
    · rename_i vx vy h1 h2
      obtain ⟨r, hk, hy⟩ := vcBin_sound hT (hρ _ _ h1) (hρ _ _ h2) x y h
      exact ⟨_, _, _, hk, yield hy fun v hv => by
        simp only [Sem.run_bind] at hv
        simp only [execOp, Sem.run_bind, hv, Result.andThen_ok, Sem.run_pure]⟩
    · exact h.elim
  · -- unOp
    split at h
    · rename_i v hv
      obtain ⟨r, hk, hy⟩ := vcUn_sound (hρ _ _ hv) h
      exact ⟨_, _, _, hk, yield hy fun v hv => by simp [execOp, hv]⟩
    · exact h.elim
  · -- makeFunc
    rename_i f first caps
    split at h
    · rename_i vs hf hc
      obtain ⟨hl, hm⟩ := mapM_spec hc
      have ef : first = #[] := by simpa using hf
      subst ef
      refine ⟨_, _, _, h, OpOut.pure (v := .func (.func f) #[] (caps.map a.eval)) hH (by simp [execOp, Instr.makeFunc]) (.fn (by simp [hl]) fun j c hj => ?_)⟩
      have hlt : j < caps.size := by have := (List.getElem?_eq_some_iff.1 hj).1; rw [hl] at this; simpa using this
      obtain ⟨v, hv, hx⟩ := hm j caps[j] (by simp [hlt])
      rw [hj] at hv; injection hv with hv; subst hv
      have := hρ _ _ hx
      simpa [hlt] using this
    · exact h.elim
  · -- makeSlice
    split at h
    · rename_i vl vc h1 h2
      obtain ⟨r, u, rd, hk, v', w', hrun, hleft⟩ := vcMakeSlice_sound hT hH (hsite rfl) (hρ _ _ h1) (hρ _ _ h2) h
      exact ⟨_, _, _, hk, .value v', v', w', by simp [execOp, hrun], .inl rfl, hleft⟩
    · exact h.elim
  · -- slice
    rename_i t x lo hi
    split at h
    · rename_i v hv
      split at h
      · obtain ⟨r, hk, hy⟩ := vcSlice_sound (lo := none) (hi := none) hT (vlo := none) (vhi := none) (hρ _ _ hv) trivial trivial h
        exact ⟨_, _, _, hk, yield hy fun v hv => by simp [execOp, hv]⟩
      · split at h
        · rename_i vl h1
          obtain ⟨r, hk, hy⟩ := vcSlice_sound (lo := some vl) (hi := none) hT (vlo := some (a.eval _)) (vhi := none) (hρ _ _ hv) (hρ _ _ h1) trivial h
          exact ⟨_, _, _, hk, yield hy fun v hv => by simp [execOp, hv]⟩
        · exact h.elim
      · split at h
        · rename_i vl h1
          obtain ⟨r, hk, hy⟩ := vcSlice_sound (lo := none) (hi := some vl) hT (vlo := none) (vhi := some (a.eval _)) (hρ _ _ hv) trivial (hρ _ _ h1) h
          exact ⟨_, _, _, hk, yield hy fun v hv => by simp [execOp, hv]⟩
        · exact h.elim
      · split at h
        · rename_i vl vh h1 h2
          obtain ⟨r, hk, hy⟩ := vcSlice_sound (lo := some vl) (hi := some vh) hT (vlo := some (a.eval _)) (vhi := some (a.eval _)) (hρ _ _ hv) (hρ _ _ h1) (hρ _ _ h2) h
          exact ⟨_, _, _, hk, yield hy fun v hv => by simp [execOp, hv]⟩
        · exact h.elim
    · exact h.elim
  · -- clip
    split at h
    · rename_i vx vh vm h1 h2 h3
      obtain ⟨r, hk, hy⟩ := vcClip_sound hT (hρ _ _ h1) (hρ _ _ h2) (hρ _ _ h3) h
      exact ⟨_, _, _, hk, yield hy fun v hv => by simp [execOp, hv]⟩
    · exact h.elim
  · -- fieldAddr
    split at h
    · rename_i v hv
      obtain ⟨r, hk, hy⟩ := vcFieldAddr_sound hT (hρ _ _ hv) h
      exact ⟨_, _, _, hk, yield hy fun v hv => by simp [execOp, hv]⟩
    · exact h.elim
  · -- field
    split at h
    · rename_i v hv
      obtain ⟨r, hk, hy⟩ := vcField_sound hT (hρ _ _ hv) h
      exact ⟨_, _, _, hk, yield hy fun v hv => by simp [execOp, hv]⟩
    · exact h.elim
  · -- indexAddr
    split at h
    · rename_i vx vi h1 h2
      obtain ⟨r, hk, hy⟩ := vcIndexAddr_sound hT (hρ _ _ h1) (hρ _ _ h2) h
      exact ⟨_, _, _, hk, yield hy fun v hv => by simp [execOp, hv]⟩
    · exact h.elim
  · -- extract
    rename_i x i
    split at h
    · rename_i vs hv
      split at h
      · rename_i v hvi
        have hr := hρ _ _ hv
        generalize he : a.eval x = u at hr
        cases hr with
        | tup hl hc =>
          rename_i arr
          have hlt : i < arr.size := by have := (List.getElem?_eq_some_iff.1 hvi).1; omega
          have := hc i v hvi
          exact ⟨_, _, _, h, OpOut.pure (v := arr.getD i undef) hH (by simp [execOp, he, Instr.extract, hlt]) this⟩
      · exact h.elim
    · exact h.elim
  · -- builtin
    rename_i b args ats
    split at h
    · -- len
      split at h
      · rename_i x t hargs hats
        split at h
        · rename_i id hv
          have e1 : args = #[x] := by have := congrArg List.toArray hargs; simpa using this
          have e2 : ats = #[t] := by have := congrArg List.toArray hats; simpa using this
          subst e1; subst e2
          obtain ⟨r, rd, hk, hy⟩ := vcMapLen_sound (ty0 := oty) hT hH (hρ _ _ hv) h
          exact ⟨_, _, _, hk, yield hy fun v hv => by simp [execOp, resolve, invoke, builtin, hv]⟩
        · rename_i v _ hv
          have e1 : args = #[x] := by have := congrArg List.toArray hargs; simpa using this
          have e2 : ats = #[t] := by have := congrArg List.toArray hats; simpa using this
          subst e1; subst e2
          obtain ⟨r, hk, hy⟩ := vcLen_sound (ty := oty) hT (hρ _ _ hv) h
          exact ⟨_, _, _, hk, yield hy fun v hv => by simp [execOp, resolve, invoke, builtin, hv]⟩
        · exact h.elim
      · exact h.elim
    · -- append
      split at h
      · rename_i s x t t2 hargs hats
        split at h
        · rename_i vs vx htt h1 h2
          have htt := Nat.eq_of_beq_eq_true htt; subst htt
          have e1 : args = #[s, x] := by have := congrArg List.toArray hargs; simpa using this
          have e2 : ats = #[t, t] := by have := congrArg List.toArray hats; simpa using this
          subst e1; subst e2
          obtain ⟨r, u, rd, hk, v', w', hrun, hleft⟩ := h.elim (fun h => vcAppend_sound (ty := oty) hT hH (hsite rfl) (hρ _ _ h1) (hρ _ _ h2) h) fun h => vcAppH_sound (ty := oty) hT hH (hsite rfl) (hρ _ _ h1) (hρ _ _ h2) h
          exact ⟨_, _, _, hk, .value v', v', w', by simp [execOp, resolve, invoke, builtin, hrun], .inl rfl, hleft⟩
        · exact h.elim
      · exact h.elim
    · -- copy
      split at h
      · rename_i s x t t2 hargs hats
        split at h
        · rename_i vs vx h1 h2
          have e1 : args = #[s, x] := by have := congrArg List.toArray hargs; simpa using this
          have e2 : ats = #[t, t2] := by have := congrArg List.toArray hats; simpa using this
          subst e1; subst e2
          obtain ⟨r, u, rd, hk, v', w', hrun, hleft⟩ := vcCopy_sound (t2 := t2) (ty := oty) hT hH β.length (hρ _ _ h1) (hρ _ _ h2) h
          exact ⟨_, _, _, hk, .value v', v', w', by simp [execOp, resolve, invoke, builtin, hrun], .inl rfl, hleft⟩
        · exact h.elim
      · exact h.elim
    · -- clear
      split at h
      · rename_i s t hargs hats
        split at h
        · rename_i vs h1
          have e1 : args = #[s] := by have := congrArg List.toArray hargs; simpa using this
          have e2 : ats = #[t] := by have := congrArg List.toArray hats; simpa using this
          subst e1; subst e2
          obtain ⟨r, u, rd, hk, v', w', hrun, hleft⟩ := vcClear_sound (ty := oty) hT hH β.length (hρ _ _ h1) h
          exact ⟨_, _, _, hk, .value v', v', w', by simp [execOp, resolve, invoke, builtin, hrun], .inl rfl, hleft⟩
        · exact h.elim
      · exact h.elim
    · -- min
      obtain ⟨r, hk, hy⟩ := vcMinMax_sound (isMax := false) (vs := (args.map a.eval).toList) ats oty (fun j x hx => by
        simp only [List.getElem?_map, Option.map_eq_some_iff] at hx
        obtain ⟨y, hy, hx⟩ := hx
        exact ⟨a.eval y, by simpa using ⟨y, by simpa using hy, rfl⟩, hρ _ _ hx⟩) (by simp) h
      exact ⟨_, _, _, hk, yield hy fun v hv => by
        simp only [cond_false, Array.toArray_toList] at hv
        simp [execOp, resolve, invoke, builtin, hv]⟩
    · -- max
      obtain ⟨r, hk, hy⟩ := vcMinMax_sound (isMax := true) (vs := (args.map a.eval).toList) ats oty (fun j x hx => by
        simp only [List.getElem?_map, Option.map_eq_some_iff] at hx
        obtain ⟨y, hy, hx⟩ := hx
        exact ⟨a.eval y, by simpa using ⟨y, by simpa using hy, rfl⟩, hρ _ _ hx⟩) (by simp) h
      exact ⟨_, _, _, hk, yield hy fun v hv => by
        simp only [cond_true, Array.toArray_toList] at hv
        simp [execOp, resolve, invoke, builtin, hv]⟩
    · exact h.elim
  · exact vcMore_sound hT hH hρ hsite h
end
end Go.Cw
/-
  Cw, part S: arguments made pure; objects frozen; a call of a function.
-/
namespace Go.Cw
set_option linter.unusedVariables false
section
variable {P : Program} {T : Tab} {I J : Nat → Prop} {β : Beta} {w : World} {H : Heap}
theorem mapO_spec {α γ : Type} {f : α → Option γ} : ∀ {l : List α} {r : List γ}, mapO f l = some r → r.length = l.length ∧ (∀ (j : Nat) y, r[j]? = some y → ∃ x, l[j]? = some x ∧ f x = some y)
  | [], r, h => by simp [mapO] at h; subst h; simp
  | x :: l, r, h => by
    simp only [mapO] at h
    split at h
    · rename_i y ys hy hys
      injection h with h; subst h
      obtain ⟨h1, h2⟩ := mapO_spec hys
      refine ⟨by simp [h1], fun j z hz => ?_⟩
      cases j with
      | zero => simp at hz; subst hz; exact ⟨x, rfl, hy⟩
      | succ j => exact h2 j z (by simpa using hz)
    · cases h
theorem andL_mem {f : AV → Prop} (hp : ∀ p, f (.pv p)) : ∀ {l : List AV}, andL f l → ∀ x ∈ l, f x
  | [], _, x, hx => by simp at hx
  | y :: l, h, x, hx => by
    have key : f y ∧ andL f l := by
      cases y <;> simp only [andL] at h
      · exact ⟨hp _, h⟩
      all_goals exact h
    rcases List.mem_cons.1 hx with rfl | hx
    · exact key.1
    · exact andL_mem hp key.2 x hx
theorem okC_pv (n : Nat) (p : PV) : okC H n (.pv p) := by cases n <;> simp [okC]
theorem rowCell_m {xs : List (List AV)} {i j : Nat} {r : List AV} {x : AV} (h1 : xs[i]? = some r) (h2 : r[j]? = some x) : rowCell (.m xs) i j = some x := by
  simp [rowCell, h1, h2]
theorem ms_pure (hH : HSim I β H w) {id z off len cap o' : Nat} {b : Nat × Nat} {o : AObj} (ho : H[id]? = some (some o)) (hb : β[id]? = some (some b)) (hz : o.z = z) (hmp : isMp o.rows = false) (hJ : J b.1) (hcap : len ≤ cap) (ho' : o' = (off + b.2) * z ∨ (cap = 0 ∧ 0 < off + b.2))
    {ps : List (List PV)} (hlen : ps.length = len) (hps : ∀ (i : Nat) r', ps[i]? = some r' → r'.length = z ∧ ∀ (j : Nat) p, r'[j]? = some p → ∃ x, rowCell o.rows (off + i) j = some x ∧ ∀ v, ARel I β w x v → PRel J w p v) :
    PRel J w (.sl z ps) (.slice (some ⟨b.1, o', none⟩) len cap) := by
  subst hz
  obtain ⟨hw, _, c, hc, hcell⟩ := obj_at hH ho hb hmp
  rw [← hlen]
  refine .sl (fun i j => (c[(off + i + b.2) * o.z + j]?).getD undef) (by omega) (fun i r hr => ?_) (fun i r j p hr hp => ?_)
  · obtain ⟨h1, h2⟩ := hps i r hr
    have hi := (List.getElem?_eq_some_iff.1 hr).1
    refine ⟨h1, _, rfl, hJ, fun j hj => ?_⟩
    obtain ⟨x, hx, _⟩ := h2 j _ (List.getElem?_eq_getElem (show j < r.length by omega))
    obtain ⟨v, hv, hone, _⟩ := hcell _ _ _ hx
    have hoo : o' = (off + b.2) * o.z := ho'.resolve_right (fun e => by omega)
    rw [add_at, cell_of_row w b.1 _ c o.ty (0, 0) hc, hv]
    simp only [Option.getD_some]
    refine ⟨?_, hone⟩
    rw [← hv, hoo, show off + i + b.2 = off + b.2 + i from by omega, Nat.add_mul (off + b.2) i, Nat.add_assoc]
  · obtain ⟨h1, h2⟩ := hps i r hr
    obtain ⟨x, hx, hrel⟩ := h2 j p hp
    obtain ⟨v, hv, _, hr'⟩ := hcell _ _ _ hx
    rw [hv]
    exact hrel v hr'
theorem prel_same (hIJ : ∀ b, I b → J b) {p : PV} {v : Value} (h : PRel I w p v) : PRel J w p v := h.mono fun b hb => ⟨rfl, hIJ b hb⟩
theorem convC_sound (hH : HSim I β H w) (hIJ : ∀ b, I b → J b) : ∀ (n : Nat) (x : AV) (p : PV) (v : Value), convC H n x = some p → okC H n x → ARel I β w x v →
    (∀ id ∈ idsC H n x, ∀ b, β[id]? = some (some b) → J b.1) → PRel J w p v
  | n, .pv q, p, v, h, _, hr, _ => by
    have : some q = some p := by cases n <;> simpa [convC] using h
    injection this with this; subst this
    cases hr with
    | pv hr => exact prel_same hIJ hr
  | 0, .agg _, p, v, h, _, _, _ => by simp [convC] at h
  | 0, .ms .., p, v, h, _, _, _ => by simp [convC] at h
  | 0, .ptr .., p, v, h, _, _, _ => by simp [convC] at h
  | 0, .fn .., p, v, h, _, _, _ => by simp [convC] at h
  | 0, .tup .., p, v, h, _, _, _ => by simp [convC] at h
  | 0, .dead, p, v, h, _, _, _ => by simp [convC] at h
  | 0, .clip .., p, v, h, _, _, _ => by simp [convC] at h
  | n + 1, .clip z xs, p, v, h, _, hr, _ => by
    simp only [convC, Option.some.injEq] at h
    subst h
    cases hr with
    | clip hr => exact prel_same hIJ hr
  | 0, .mp _, p, v, h, _, _, _ => by simp [convC] at h
  | n + 1, .mp _, p, v, h, _, _, _ => by simp [convC] at h
  | n + 1, .agg _, p, v, h, _, _, _ => by simp [convC] at h
  | n + 1, .tup _, p, v, h, _, _, _ => by simp [convC] at h
  | n + 1, .dead, p, v, h, _, _, _ => by simp [convC] at h
  | n + 1, .ms id z off len, p, v, h, hok, hr, hids => by
    obtain ⟨b, cap, o', rfl, hb, hcap, _, ho', _⟩ := ms_inv hr
    simp only [convC] at h
    split at h
    · rename_i o ho
      simp only [okC, ho] at hok
      simp only [idsC, ho] at hids
      have hJ : J b.1 := by
        cases hfz : o.fz
        · exact hids id (by simp [hfz]) b hb
        · exact hIJ b.1 ((obj_at0 hH ho hb).2.1.1 hfz)
      have hw := (obj_at0 hH ho hb).1
      split at h
      · rename_i xs hz hrows
        have hz := Nat.eq_of_beq_eq_true hz
        injection h with h; subst h
        rw [hrows] at hok hw
        refine ms_pure hH ho hb hz (by rw [hrows]; rfl) hJ hcap ho' (by simp; omega) (fun i r hr => ?_)
        obtain ⟨h1, h2⟩ := sub_rows hr
        refine ⟨by rw [← hz]; exact hw _ r h1, fun j p hp => ⟨.pv p, ?_, fun v hv => ?_⟩⟩
        · rw [hrows]; simp [rowCell, h1, hp]
        · cases hv with
          | pv hv => exact prel_same hIJ hv
      · rename_i xs hz hrows
        have hz := Nat.eq_of_beq_eq_true hz
        rw [hrows] at hok hw hids
        split at h
        · rename_i ps hps
          injection h with h; subst h
          obtain ⟨hl, hm⟩ := mapO_spec hps
          refine ms_pure hH ho hb hz (by rw [hrows]; rfl) hJ hcap ho' (by rw [hl]; simp; omega) (fun i r' hr' => ?_)
          obtain ⟨r, hr, hrr⟩ := hm i r' hr'
          obtain ⟨h1, h2⟩ := sub_rows hr
          obtain ⟨hl2, hm2⟩ := mapO_spec hrr
          have hmem : r ∈ (xs.drop off).take len := List.mem_of_getElem? hr
          refine ⟨by rw [hl2, ← hz]; exact hw _ r h1, fun j p hp => ?_⟩
          obtain ⟨x, hx, hxp⟩ := hm2 j p hp
          have hxm : x ∈ r := List.mem_of_getElem? hx
          refine ⟨x, by rw [hrows]; exact rowCell_m h1 hx, fun v hv => ?_⟩
          exact convC_sound hH hIJ n x p v hxp (andL_mem (okC_pv n) (hok.2 r hmem) x hxm) hv (fun id' hid' => hids id' (by
            simp only [List.mem_append, List.mem_flatMap]
            exact .inr ⟨r, hmem, x, hxm, hid'⟩))
        · cases h
      · cases h
    · cases h
  | n + 1, .ptr id z row col, p, v, h, hok, hr, hids => by
    obtain ⟨b, hb, rfl⟩ := ptr_inv hr
    simp only [convC] at h
    split at h
    · rename_i o ho
      simp only [okC, ho] at hok
      simp only [idsC, ho] at hids
      have hJ : J b.1 := by
        cases hfz : o.fz
        · exact hids id (by simp [hfz]) b hb
        · exact hIJ b.1 ((obj_at0 hH ho hb).2.1.1 hfz)
      split at h
      · rename_i cs hz hrows
        obtain ⟨hw, _, c, hc, hcell⟩ := obj_at hH ho hb (by rw [hrows]; rfl)
        have hz := Nat.eq_of_beq_eq_true hz; subst hz
        rw [hrows] at hok hids
        split at h
        · rename_i ps hps
          injection h with h; subst h
          obtain ⟨hl, hm⟩ := mapO_spec hps
          have key : ∀ (j : Nat) p, ps[j]? = some p → ∃ v, c[b.2 * o.z + (col + j)]? = some v ∧ v.oneCell' = true ∧ PRel J w p v := fun j p hp => by
            obtain ⟨x, hx, hxp⟩ := hm j p hp
            have hx' : cs[col + j]? = some x := by rw [List.getElem?_drop] at hx; exact hx
            obtain ⟨v, hv, h1, hr⟩ := hcell 0 (col + j) x (by rw [hrows]; simp [rowCell, hx'])
            have hmem : x ∈ cs.drop col := List.mem_of_getElem? hx
            refine ⟨v, by simpa using hv, h1, convC_sound hH hIJ n x p v hxp (andL_mem (okC_pv n) hok x hmem) hr (fun id' hid' => hids id' ?_)⟩
            simp only [List.mem_append, List.mem_flatMap]
            exact .inr ⟨x, hmem, hid'⟩
          refine .ia (fun j => (c[b.2 * o.z + (col + j)]?).getD undef) hJ (fun j hj => ?_) (fun j p hp => ?_)
          · obtain ⟨v, hv, h1, _⟩ := key j _ (List.getElem?_eq_getElem hj)
            rw [add_at, cell_of_row w b.1 _ c o.ty (0, 0) hc, hv]
            refine ⟨?_, h1⟩
            rw [Nat.zero_add, Nat.add_assoc, hv]; rfl
          · obtain ⟨v, hv, _, hr⟩ := key j p hp
            rw [hv]; exact hr
        · cases h
      · cases h
    · cases h
  | n + 1, .fn f caps, p, v, h, hok, hr, hids => by
    simp only [convC] at h
    split at h
    · rename_i ps hps
      injection h with h; subst h
      obtain ⟨hl, hm⟩ := mapO_spec hps
      cases hr with
      | fn hvl hvs =>
        refine .fn (by rw [hvl, hl]) (fun j p hp => ?_)
        obtain ⟨x, hx, hxp⟩ := hm j p hp
        have hmem : x ∈ caps := List.mem_of_getElem? hx
        simp only [okC] at hok
        simp only [idsC] at hids
        exact convC_sound hH hIJ n x p _ hxp (andL_mem (okC_pv n) hok x hmem) (hvs j x hx) (fun id' hid' => hids id' (List.mem_flatMap.2 ⟨x, hmem, hid'⟩))
    · cases h
theorem conv1_sound (hH : HSim I β H w) (hIJ : ∀ b, I b → J b) {x y : AV} {v : Value} {β' : Beta} (h : conv1 H x = some y) (hok : ok0 H x) (hr : ARel I β w x v) (hids : ∀ id ∈ ids0 H x, ∀ b, β[id]? = some (some b) → J b.1) : ARel J β' w y v := by
  have other : ∀ {p : PV}, convC H 5 x = some p → okC H 5 x → (∀ id ∈ idsC H 5 x, ∀ b, β[id]? = some (some b) → J b.1) → ARel J β' w (.pv p) v :=
    fun h1 h2 h3 => .pv (convC_sound hH hIJ 5 x _ v h1 h2 hr h3)
  cases x with
  | agg cs =>
    simp only [conv1] at h
    split at h
    · rename_i ps hps
      injection h with h; subst h
      obtain ⟨hl, hm⟩ := mapO_spec hps
      cases hr with
      | agg hvl hvs =>
        refine .agg (by rw [hvl, pvs_length, hl]) (fun j c hc => ?_)
        obtain ⟨p, hp, rfl⟩ := pvs_get.1 hc
        obtain ⟨x, hx, hxp⟩ := hm j p hp
        have hmem : x ∈ cs := List.mem_of_getElem? hx
        simp only [ok0] at hok
        simp only [ids0] at hids
        exact .pv (convC_sound hH hIJ 5 x p _ hxp (andL_mem (okC_pv 5) hok x hmem) (hvs j x hx) (fun id' hid' => hids id' (List.mem_flatMap.2 ⟨x, hmem, hid'⟩)))
    · cases h
  | _ =>
    simp only [conv1] at h
    split at h
    · rename_i p hp
      injection h with h; subst h
      simp only [ok0] at hok
      simp only [ids0] at hids
      exact other hp hok hids
    · cases h
theorem ok0_pv (p : PV) : ok0 H (.pv p) := by simp [ok0, okC]
theorem conv_sound (hH : HSim I β H w) (hIJ : ∀ b, I b → J b) {x y : AV} {v : Value} {β' : Beta} (h : conv H x = some y) (hok : ok1 H x) (hr : ARel I β w x v) (hids : ∀ id ∈ ids1 H x, ∀ b, β[id]? = some (some b) → J b.1) : ARel J β' w y v := by
  cases x with
  | tup vs =>
    simp only [conv] at h
    split at h
    · rename_i ps hps
      injection h with h; subst h
      obtain ⟨hl, hm⟩ := mapO_spec hps
      cases hr with
      | tup hvl hvs =>
        refine .tup (by rw [hvl, hl]) (fun j c hc => ?_)
        obtain ⟨x, hx, hxp⟩ := hm j c hc
        have hmem : x ∈ vs := List.mem_of_getElem? hx
        simp only [ok1] at hok
        simp only [ids1] at hids
        exact conv1_sound hH hIJ hxp (andL_mem ok0_pv hok x hmem) (hvs j x hx) (fun id' hid' => hids id' (List.mem_flatMap.2 ⟨x, hmem, hid'⟩))
    · cases h
  | _ => exact conv1_sound hH hIJ (by simpa [conv] using h) (by simpa [ok1] using hok) hr (by simpa [ids1] using hids)
theorem ok1_pv (p : PV) : ok1 H (.pv p) := by simp [ok1, ok0, okC]
theorem scal1_sound {x : AV} {v : Value} {I' : Nat → Prop} {β' : Beta} {w' : World} (h : scal1 x = true) (hr : ARel I β w x v) : ARel I' β' w' x v := by
  unfold scal1 at h
  split at h
  · obtain rfl := val_inv hr; exact rel_val _
  · cases h
theorem scal_sound {x : AV} {v : Value} {I' : Nat → Prop} {β' : Beta} {w' : World} (h : scal x = true) (hr : ARel I β w x v) : ARel I' β' w' x v := by
  unfold scal at h
  split at h
  · obtain rfl := val_inv hr; exact rel_val _
  · cases hr with
    | agg hl hc => exact .agg hl fun j c hj => scal1_sound (List.all_eq_true.1 h c (List.mem_of_getElem? hj)) (hc j c hj)
  · cases hr with
    | tup hl hc =>
      refine .tup hl fun j c hj => ?_
      have h1 := List.all_eq_true.1 h c (List.mem_of_getElem? hj)
      have h2 := hc j c hj
      generalize _root_.Array.getD _ j undef = vj at h2 ⊢
      split at h1
      · cases h2 with
        | agg hl2 hc2 => exact .agg hl2 fun j c hj => scal1_sound (List.all_eq_true.1 h1 c (List.mem_of_getElem? hj)) (hc2 j c hj)
      · exact scal1_sound h1 h2
  · cases h
theorem idsC_live : ∀ (n : Nat) (x : AV), ∀ id ∈ idsC H n x, ∃ o, H[id]? = some (some o)
  | 0, x, id, h => by cases x <;> simp [idsC] at h
  | n + 1, .ms id' z off len, id, h => by
    simp only [idsC] at h
    split at h
    · rename_i o ho
      simp only [List.mem_append] at h
      rcases h with h | h
      · split at h
        · simp at h
        · simp at h; subst h; exact ⟨o, ho⟩
      · split at h
        · simp only [List.mem_flatMap] at h
          obtain ⟨r, _, x, _, h⟩ := h
          exact idsC_live n x id h
        · simp at h
    · simp at h
  | n + 1, .ptr id' z row col, id, h => by
    simp only [idsC] at h
    split at h
    · rename_i o ho
      simp only [List.mem_append] at h
      rcases h with h | h
      · split at h
        · simp at h
        · simp at h; subst h; exact ⟨o, ho⟩
      · split at h
        · simp only [List.mem_flatMap] at h
          obtain ⟨x, _, h⟩ := h
          exact idsC_live n x id h
        · simp at h
    · simp at h
  | n + 1, .fn f caps, id, h => by
    simp only [idsC, List.mem_flatMap] at h
    obtain ⟨x, _, h⟩ := h
    exact idsC_live n x id h
  | n + 1, .pv _, id, h => by simp [idsC] at h
  | n + 1, .agg _, id, h => by simp [idsC] at h
  | n + 1, .tup _, id, h => by simp [idsC] at h
  | n + 1, .dead, id, h => by simp [idsC] at h
  | n + 1, .clip .., id, h => by simp [idsC] at h
theorem app_length : ∀ (u : Upd) (H : Heap), (app H u).length = H.length
  | [], H => rfl
  | (i, o) :: u, H => by simp [app, app_length u]
theorem frz_get : ∀ (ids : List Nat) (H0 H : Heap), (∀ i : Nat, (∃ o, H0[i]? = some (some o)) → ∃ o2, H0[i]? = some (some o2) ∧ (H[i]? = some (some o2) ∨ H[i]? = some (some { o2 with fz := true }))) → ∀ (i : Nat),
    (app H (frz H0 ids))[i]? = match H0[i]? with
      | some (some o) => if i ∈ ids then some (some { o with fz := true }) else H[i]?
      | _ => H[i]?
  | [], H0, H, _, i => by simp [frz, app]; split <;> rfl
  | k :: ids, H0, H, hinv, i => by
    simp only [frz]
    split
    · rename_i o ho
      simp only [app]
      rw [frz_get ids H0 (H.set k (some { o with fz := true })) (fun i ⟨o2, ho2⟩ => by
        obtain ⟨o3, h3, h4⟩ := hinv i ⟨o2, ho2⟩
        refine ⟨o3, h3, ?_⟩
        by_cases hki : k = i
        · subst hki
          rw [ho] at h3; injection h3 with h3; injection h3 with h3; subst h3
          right
          rw [List.getElem?_set_self]
          rcases h4 with h | h <;> exact (List.getElem?_eq_some_iff.1 h).1
        · rw [List.getElem?_set_ne hki]; exact h4) i]
      by_cases hki : k = i
      · subst hki
        simp only [ho, List.mem_cons, true_or, if_true]
        split
        · rfl
        · obtain ⟨o3, h3, h4⟩ := hinv k ⟨o, ho⟩
          rw [List.getElem?_set_self]
          rcases h4 with h | h <;> exact (List.getElem?_eq_some_iff.1 h).1
      · rw [List.getElem?_set_ne hki]
        split
        · have hki2 : i ≠ k := fun e => hki e.symm
          have : (i ∈ k :: ids) ↔ i ∈ ids := by simp [hki2]
          simp only [this]
        · rfl
    · rename_i hn
      rw [frz_get ids H0 H hinv i]
      split
      · rename_i o ho
        have hki : i ≠ k := fun e => by subst e; exact hn o ho
        have : (i ∈ k :: ids) ↔ i ∈ ids := by simp [hki]
        simp only [this]
      · rfl
end
end Go.Cw
/-
  Cw, part U: a call of a function by its contract.
-/
namespace Go.Cw
set_option linter.unusedVariables false
section
variable {P : Program} {T : Tab} {I J : Nat → Prop} {β : Beta} {w : World} {H : Heap}
def CallsOut (P : Program) (I : Nat → Prop) (β : Beta) (w : World) (f : FuncId) (vals : Array Value) (K : AV → Heap → Prop) : Prop :=
  Calls P f vals w fun e w' => ∃ r H2 I' β' v, e = .returned v ∧ K r H2 ∧ HSim I' β' H2 w' ∧ ARel I' β' w' r v ∧ Evo I β w I' β' w' ∧ ∀ s : Nat, β[s]? = some none → β'[s]? = some none
theorem ids1_live {x : AV} {id : Nat} (h : id ∈ ids1 H x) : ∃ o, H[id]? = some (some o) := by
  have h0 : ∀ {y : AV}, id ∈ ids0 H y → ∃ o, H[id]? = some (some o) := fun {y} hy => by
    cases y with
    | agg cs =>
      simp only [ids0, List.mem_flatMap] at hy
      obtain ⟨x, _, hy⟩ := hy
      exact idsC_live 5 x id hy
    | _ => exact idsC_live 5 _ id hy
  cases x with
  | tup vs =>
    simp only [ids1, List.mem_flatMap] at h
    obtain ⟨x, _, h⟩ := h
    exact h0 h
  | _ => simp only [ids1] at h; exact h0 h
theorem keep_all {I' : Nat → Prop} {β' : Beta} {w' : World} (h : Evo J [] w I' β' w') : ∀ b, b < w.heap.size → w'.heap[b]? = w.heap[b]? := fun b hb => h.keep b hb (fun i => by simp)
theorem pure_call (hH : HSim I β H w) {f : FuncId} {args as_ as0 : List AV} {vals : Array Value} (hl : vals.size = args.length) (hargs : ∀ (j : Nat) c, args[j]? = some c → ARel I β w c (vals.getD j undef))
    (hc : mapO (conv H) args = some as0) (hok : andL (ok1 H) args) (he : as_ = as0) {Post : AV → Prop} (hp : PCall P f as_ Post) {K : AV → Heap → Prop}
    (hK : ∀ r, Post r → (scal r = true ∧ K r H) ∨ K r (app H (frz H (args.flatMap (ids1 H))))) : Enterable P f ∧ CallsOut P I β w f vals K := by
  subst he
  obtain ⟨hent, hp⟩ := hp
  refine ⟨hent, ?_⟩
  let ids := args.flatMap (ids1 H)
  let J : Nat → Prop := fun b => I b ∨ ∃ id ∈ ids, ∃ c, β[id]? = some (some c) ∧ c.1 = b
  have hIJ : ∀ b, I b → J b := fun b h => .inl h
  have hJlt : ∀ b, J b → b < w.heap.size := fun b h => by
    rcases h with h | ⟨id, _, c, h, rfl⟩
    · exact hH.imm b h
    · exact hH.lt id c h
  obtain ⟨hl2, hm⟩ := mapO_spec hc
  have hcall := hp J [] w vals ⟨rfl, fun i o h => by simp at h, fun i j oi oj b b' h => by simp at h, ⟨hJlt, hH.imm.gl.mono fun b h => ⟨rfl, hIJ b h⟩⟩, fun i b h => by simp at h⟩ (by omega) (fun j c hj => by
    obtain ⟨x, hx, hxc⟩ := hm j c hj
    have hmem : x ∈ args := List.mem_of_getElem? hx
    exact conv_sound hH hIJ hxc (andL_mem ok1_pv hok x hmem) (hargs j x hx) (fun id hid b hb => .inr ⟨id, List.mem_flatMap.2 ⟨x, hmem, hid⟩, b, hb, rfl⟩))
  refine hcall.mono fun e w' h => ?_
  obtain ⟨r, H', I', β', v, he, ⟨rfl, hpost⟩, hH', hr, hevo⟩ := h
  have hβ' : β' = [] := List.eq_nil_of_length_eq_zero hH'.len
  subst hβ'
  have hsame := keep_all hevo
  have hpre : ∀ (i : Nat) b, β[i]? = some (some b) → β[i]? = some (some b) := fun _ _ h => h
  rcases hK r hpost with ⟨hs, hk⟩ | hk
  · have hkI : ∀ b, I b → w'.heap[b]? = w.heap[b]? ∧ I b := fun b hb => ⟨hsame b (hH.imm b hb), hb⟩
    refine ⟨r, H, I, β, v, he, hk, ⟨hH.len, fun i o ho => ?_, hH.inj, ⟨fun b hb => Nat.lt_of_lt_of_le (hH.imm b hb) hevo.size, hH.imm.gl.mono hkI⟩, fun i b hb => Nat.lt_of_lt_of_le (hH.lt i b hb) hevo.size⟩, scal_sound hs hr,
      ⟨hevo.os, hevo.tape, hevo.output, hevo.size, hpre, fun i b hb => .inr ⟨i, b, hb, rfl⟩, fun b hb _ => hsame b hb, hkI, fun b _ h => .inl h, hevo.shape, hevo.drawn⟩, fun s h => h⟩
    obtain ⟨b, hb, hos⟩ := hH.obj i o ho
    exact ⟨b, hb, hos.mono hkI hpre hevo.shape (hsame b.1 (hH.lt i b hb)) (fun h => h)⟩
  · have hkI : ∀ b, I b → w'.heap[b]? = w.heap[b]? ∧ I' b := fun b hb => hevo.keepI b (.inl hb)
    have hget := frz_get ids H H (fun i ⟨o, ho⟩ => ⟨o, ho, .inl ho⟩)
    refine ⟨r, _, I', β, v, he, hk, ⟨by rw [app_length]; exact hH.len, fun i o2 ho2 => ?_, fun i j oi oj b b' hi hj hbi hbj hbb => ?_, hH'.imm, fun i b hb => Nat.lt_of_lt_of_le (hH.lt i b hb) hevo.size⟩,
      hr.mono (fun b h => ⟨rfl, h⟩) (fun i b h => by simp at h) (fun _ _ _ h => h), ⟨hevo.os, hevo.tape, hevo.output, hevo.size, hpre, fun i b hb => .inr ⟨i, b, hb, rfl⟩, fun b hb _ => hsame b hb, hkI, fun b hb hI => ?_, hevo.shape, hevo.drawn⟩, fun s h => h⟩
    · rw [hget i] at ho2
      cases hHi : H[i]? with
      | none => simp [hHi] at ho2
      | some oo =>
        cases oo with
        | none => simp [hHi] at ho2
        | some o =>
          obtain ⟨b, hb, h1, h2, c, h3, h4⟩ := hH.obj i o hHi
          refine ⟨b, hb, ?_⟩
          simp only [hHi] at ho2
          have hcells : ∀ i j x, rowCell o.rows i j = some x → ∃ v, c[(i + b.2) * o.z + j]? = some v ∧ v.oneCell' = true ∧ ARel I' β w' x v := fun i j x hx => by
            obtain ⟨v, hv, h5, h6⟩ := h4 i j x hx
            exact ⟨v, hv, h5, h6.mono hkI hpre hevo.shape⟩
          have hblk := (hsame b.1 (hH.lt i b hb)).trans h3
          by_cases hi : i ∈ ids
          · rw [if_pos hi] at ho2
            injection ho2 with ho2; injection ho2 with ho2; subst ho2
            exact ⟨h1, ⟨fun _ => (hevo.keepI b.1 (.inr ⟨i, hi, b, hb, rfl⟩)).2, fun _ => rfl⟩, c, hblk, hcells⟩
          · rw [if_neg hi] at ho2
            injection ho2 with ho2; injection ho2 with ho2; subst ho2
            refine ⟨h1, ⟨fun e => (hkI b.1 (h2.1 e)).2, fun hI => h2.2 ?_⟩, c, hblk, hcells⟩
            rcases hevo.old b.1 (hH.lt i b hb) hI with h | ⟨k, _, h, _⟩
            · rcases h with h | ⟨id, hid, c', h, hc'⟩
              · exact h
              · exfalso
                obtain ⟨x, hx, hxid⟩ := List.mem_flatMap.1 hid
                obtain ⟨oid, hoid⟩ := ids1_live hxid
                exact hi (hH.inj id i oid o c' b hoid hHi h hb hc' ▸ hid)
            · simp at h
    · have live : ∀ {i : Nat} {oi : AObj}, (app H (frz H ids))[i]? = some (some oi) → ∃ o, H[i]? = some (some o) := fun {i oi} hi => by
        rw [hget i] at hi
        cases hHi : H[i]? with
        | none => simp [hHi] at hi
        | some oo => cases oo with
          | none => simp [hHi] at hi
          | some o => exact ⟨o, rfl⟩
      obtain ⟨o1, h1⟩ := live hi
      obtain ⟨o2, h2⟩ := live hj
      exact hH.inj i j o1 o2 b b' h1 h2 hbi hbj hbb
    · rcases hevo.old b hb hI with h | ⟨k, _, h, _⟩
      · rcases h with h | ⟨id, _, h⟩
        · exact .inl h
        · exact .inr ⟨id, h⟩
      · simp at h
theorem ren_mono {I' : Nat → Prop} {β' : Beta} {d : Nat} {rn : List Nat} (hb : ∀ (k : Nat) b, β[k]? = some (some b) → β'[rn.getD k d]? = some (some b)) (hI : ∀ b, I b → I' b) {x : AV} {v : Value} (h : ARel I β w x v) : ARel I' β' w (renC d rn x) v := by
  have list : ∀ {cs : List AV} {j : Nat} {c : AV}, (renL d rn cs)[j]? = some c → ∃ c0, cs[j]? = some c0 ∧ c = renC d rn c0 := by
    intro cs
    induction cs with
    | nil => intro j c h; simp [renL] at h
    | cons x l ih =>
      intro j c h
      cases j with
      | zero => simp [renL] at h; exact ⟨x, rfl, h.symm⟩
      | succ j => simp only [renL, List.getElem?_cons_succ] at h; exact ih h
  have len : ∀ {cs : List AV}, (renL d rn cs).length = cs.length := by
    intro cs; induction cs <;> simp [renL, *]
  induction h with
  | pv h => simp only [renC]; exact .pv (h.mono fun b hb => ⟨rfl, hI b hb⟩)
  | agg hl _ ih => simp only [renC]; exact .agg (by rw [hl, len]) fun j c hj => by obtain ⟨c0, h0, rfl⟩ := list hj; exact ih j c0 h0
  | ms h1 h2 h3 h4 h5 => simp only [renC]; exact .ms (hb _ _ h1) h2 h3 h4 h5
  | ptr h1 => simp only [renC]; exact .ptr (hb _ _ h1)
  | mp h1 => simp only [renC]; exact .mp (hb _ _ h1)
  | fn hl _ ih => simp only [renC]; exact .fn (by rw [hl, len]) fun j c hj => by obtain ⟨c0, h0, rfl⟩ := list hj; exact ih j c0 h0
  | tup hl _ ih => simp only [renC]; exact .tup (by rw [hl, len]) fun j c hj => by obtain ⟨c0, h0, rfl⟩ := list hj; exact ih j c0 h0
  | clip h => simp only [renC]; exact .clip (h.mono fun b hb => ⟨rfl, hI b hb⟩)
  | dead v => simp only [renC]; exact .dead v
theorem renL_get {d : Nat} {rn : List Nat} : ∀ {cs : List AV} {j : Nat}, (renL d rn cs)[j]? = (cs[j]?).map (renC d rn)
  | [], j => by simp [renL]
  | x :: l, 0 => by simp [renL]
  | x :: l, j + 1 => by simp only [renL, List.getElem?_cons_succ]; exact renL_get
theorem renL_length {d : Nat} {rn : List Nat} : ∀ {cs : List AV}, (renL d rn cs).length = cs.length
  | [] => rfl
  | x :: l => by simp [renL, renL_length]
theorem ren_back {βc : Beta} {d : Nat} {rn : List Nat} (hb : ∀ (k : Nat) b, β[rn.getD k d]? = some (some b) → βc[k]? = some (some b)) : ∀ {x y : AV} {v : Value}, y = renC d rn x → ARel I β w y v → ARel I βc w x v := by
  intro x y v hxy h
  induction h generalizing x with
  | pv h => cases x <;> simp only [renC] at hxy <;> cases hxy; exact .pv h
  | agg hl _ ih =>
    cases x <;> simp only [renC] at hxy <;> cases hxy
    exact .agg (by rw [hl, renL_length]) fun j c hj => ih j (renC d rn c) (by rw [renL_get, hj]; rfl) rfl
  | ms h1 h2 h3 h4 h5 => cases x <;> simp only [renC] at hxy <;> cases hxy; exact .ms (hb _ _ h1) h2 h3 h4 h5
  | ptr h1 => cases x <;> simp only [renC] at hxy <;> cases hxy; exact .ptr (hb _ _ h1)
  | mp h1 => cases x <;> simp only [renC] at hxy <;> cases hxy; exact .mp (hb _ _ h1)
  | fn hl _ ih =>
    cases x <;> simp only [renC] at hxy <;> cases hxy
    exact .fn (by rw [hl, renL_length]) fun j c hj => ih j (renC d rn c) (by rw [renL_get, hj]; rfl) rfl
  | tup hl _ ih =>
    cases x <;> simp only [renC] at hxy <;> cases hxy
    exact .tup (by rw [hl, renL_length]) fun j c hj => ih j (renC d rn c) (by rw [renL_get, hj]; rfl) rfl
  | clip h => cases x <;> simp only [renC] at hxy <;> cases hxy; exact .clip h
  | dead v => cases x <;> simp only [renC] at hxy <;> cases hxy; exact .dead v
theorem renRows_cell {d : Nat} {rn : List Nat} {rows : Rows} {i j : Nat} : rowCell (renRows d rn rows) i j = (rowCell rows i j).map (renC d rn) := by
  cases rows with
  | box cs =>
    simp only [renRows, rowCell]
    split
    · exact renL_get
    · rfl
  | p xs =>
    simp only [renRows, rowCell]
    cases xs[i]?.bind (·[j]?) <;> simp [renC]
  | m xs =>
    simp only [renRows, rowCell, List.getElem?_map]
    cases xs[i]? with
    | none => rfl
    | some r => simp [renL_get]
  | mp s k es ck =>
    simp only [renRows, rowCell]
    split
    · simp only [List.getElem?_map, Option.map_map]; rfl
    · rfl
theorem memOf_ren {d : Nat} {rn : List Nat} {rows : Rows} {c : Array Value} {t : TypeId} : memOf (renRows d rn rows) c t = memOf rows c t := by
  cases rows with
  | mp s k es ck =>
    simp only [renRows, memOf, List.zip_map_left, List.map_map]
    rfl
  | _ => rfl
theorem renRows_wide {d : Nat} {rn : List Nat} {rows : Rows} {z : Nat} : rowsWide (renRows d rn rows) z ↔ rowsWide rows z := by
  cases rows with
  | box cs => simp [renRows, rowsWide, renL_length]
  | p xs => simp [renRows, rowsWide]
  | m xs =>
    simp only [renRows, rowsWide, List.getElem?_map, Option.map_eq_some_iff]
    constructor
    · intro h i r hr; have := h i _ ⟨r, hr, rfl⟩; rwa [renL_length] at this
    · rintro h i _ ⟨r, hr, rfl⟩; rw [renL_length]; exact h i r hr
  | mp s k es ck =>
    simp only [renRows, rowsWide, List.mem_map]
    refine and_congr_right fun _ => ⟨fun h e he => h (e.1, e.2.1, renC d rn e.2.2) ⟨e, he, rfl⟩, ?_⟩
    rintro h _ ⟨e, he, rfl⟩
    exact h e he
theorem passed_spec {d : Nat} {rn : List Nat} : ∀ {ids : List Nat} {Hc : Heap}, passed H d rn ids Hc → Hc.length = ids.length ∧ ∀ (k : Nat) oo, Hc[k]? = some oo → ∃ o i, oo = some o ∧ ids[k]? = some i ∧ H[i]? = some (some (renO d rn o))
  | [], [], _ => by simp
  | [], o :: Hc, h => by cases o <;> simp [passed] at h
  | i :: l, [], h => by simp [passed] at h
  | i :: l, none :: Hc, h => by simp [passed] at h
  | i :: l, some o :: Hc, h => by
    simp only [passed] at h
    obtain ⟨h1, h2⟩ := passed_spec h.2
    refine ⟨by simp [h1], fun k oo hk => ?_⟩
    cases k with
    | zero => simp at hk; subst hk; exact ⟨o, i, rfl, rfl, h.1⟩
    | succ k => obtain ⟨o, i, e1, e2, e3⟩ := h2 k oo (by simpa using hk); exact ⟨o, i, e1, by simpa using e2, e3⟩
theorem allD_spec : ∀ {l : List Nat}, allD l = true → ∀ (i j x : Nat), l[i]? = some x → l[j]? = some x → i = j
  | [], _, i, j, x, h, _ => by simp at h
  | y :: l, h, i, j, x, hi, hj => by
    simp only [allD, Bool.and_eq_true, List.all_eq_true, Bool.not_eq_true'] at h
    cases i with
    | zero =>
      cases j with
      | zero => rfl
      | succ j =>
        simp at hi hj; subst hi
        have := h.1 y (List.mem_of_getElem? hj)
        simp at this
    | succ i =>
      cases j with
      | zero =>
        simp at hi hj; subst hj
        have := h.1 y (List.mem_of_getElem? hi)
        simp at this
      | succ j => rw [allD_spec h.2 i j x (by simpa using hi) (by simpa using hj)]
end
end Go.Cw
/-
  Cw, part V: a call that is handed objects.
-/
namespace Go.Cw
set_option linter.unusedVariables false
section
variable {P : Program} {T : Tab} {I J : Nat → Prop} {β : Beta} {w : World} {H : Heap}
theorem tabl_get : ∀ (n a m : Nat), (tabl a n)[m]? = if m < n then some (a + m) else none
  | 0, a, m => by simp [tabl]
  | n + 1, a, 0 => by simp [tabl]
  | n + 1, a, m + 1 => by
    simp only [tabl, List.getElem?_cons_succ, tabl_get n (a + 1) m]
    by_cases h : m < n
    · rw [if_pos h, if_pos (by omega)]; congr 1; omega
    · rw [if_neg h, if_neg (by omega)]
theorem taken_spec {d : Nat} {rn : List Nat} : ∀ {ids : List Nat} {Hc H : Heap}, ids.length ≤ Hc.length → allD ids = true → (∀ i ∈ ids, i < H.length) →
    (taken d rn ids Hc H).length = H.length + (Hc.length - ids.length) ∧ (∀ (k i : Nat) oc, ids[k]? = some i → Hc[k]? = some oc → (taken d rn ids Hc H)[i]? = some (renOpt d rn oc)) ∧
      (∀ i, i < H.length → i ∉ ids → (taken d rn ids Hc H)[i]? = H[i]?) ∧ ∀ m, (taken d rn ids Hc H)[H.length + m]? = (Hc[ids.length + m]?).map (renOpt d rn)
  | [], Hc, H, _, _, _ => by
    simp only [taken]
    refine ⟨by simp, fun k i oc h => by simp at h, fun i hi _ => List.getElem?_append_left hi, fun m => ?_⟩
    rw [List.getElem?_append_right (by omega)]
    simp
  | i :: l, [], H, h, _, _ => by simp at h
  | i :: l, o :: Hc, H, h, hd, hlt => by
    simp only [taken]
    simp only [allD, Bool.and_eq_true, List.all_eq_true, Bool.not_eq_true'] at hd
    have hni : i ∉ l := fun hm => by have := hd.1 i hm; simp at this
    obtain ⟨h1, h2, h3, h4⟩ := taken_spec (d := d) (rn := rn) (ids := l) (Hc := Hc) (H := H.set i (renOpt d rn o)) (by simp at h; omega) hd.2 (fun j hj => by simp; exact hlt j (by simp [hj]))
    simp only [List.length_set] at h1 h3 h4
    refine ⟨by rw [h1]; simp, fun k i' oc hk hc => ?_, fun i' hi' hn => ?_, fun m => ?_⟩
    · cases k with
      | zero =>
        simp at hk hc; subst hk; subst hc
        rw [h3 i (hlt i (by simp)) hni, List.getElem?_set_self (hlt i (by simp))]
      | succ k => exact h2 k i' oc (by simpa using hk) (by simpa using hc)
    · simp only [List.mem_cons, not_or] at hn
      rw [h3 i' hi' hn.2, List.getElem?_set_ne (fun e => hn.1 e.symm)]
    · rw [h4 m]; simp only [List.length_cons]; rw [show l.length + 1 + m = l.length + m + 1 from by omega, List.getElem?_cons_succ]
theorem obj_call (hH : HSim I β H w) {f : FuncId} {args as_ : List AV} {vals : Array Value} (hl : vals.size = args.length) (hargs : ∀ (j : Nat) c, args[j]? = some c → ARel I β w c (vals.getD j undef))
    {ids : List Nat} {Hc : Heap} {Post : AV → Heap → Prop} (hd : allD ids = true) (hp : passed H H.length ids ids Hc) (ha : args = renL H.length ids as_) (hc : ACall P f as_ Hc Post) {K : AV → Heap → Prop}
    (hK : ∀ r Hc', Post r Hc' → ids.length ≤ Hc'.length ∧ K (renC 0 (ids ++ tabl H.length (Hc'.length - ids.length)) r) (taken 0 (ids ++ tabl H.length (Hc'.length - ids.length)) ids Hc' H)) : Enterable P f ∧ CallsOut P I β w f vals K := by
  obtain ⟨hent, hc⟩ := hc
  refine ⟨hent, ?_⟩
  obtain ⟨hpl, hps⟩ := passed_spec hp
  let βc : Beta := ids.map fun i => (β[i]?).getD none
  have hβc : ∀ (k : Nat) b, βc[k]? = some (some b) ↔ ∃ i, ids[k]? = some i ∧ β[i]? = some (some b) := fun k b => by
    simp only [βc, List.getElem?_map, Option.map_eq_some_iff]
    constructor
    · rintro ⟨i, hi, h⟩
      refine ⟨i, hi, ?_⟩
      cases hb : β[i]? with
      | none => simp [hb] at h
      | some x => simp [hb] at h; rw [h]
    · rintro ⟨i, hi, h⟩
      exact ⟨i, hi, by simp [h]⟩
  have hlive : ∀ (k i : Nat), ids[k]? = some i → ∃ o b, Hc[k]? = some (some o) ∧ H[i]? = some (some (renO H.length ids o)) ∧ β[i]? = some (some b) := fun k i hk => by
    have hlt := (List.getElem?_eq_some_iff.1 hk).1
    obtain ⟨o, i', e1, e2, e3⟩ := hps k _ (List.getElem?_eq_getElem (show k < Hc.length by omega))
    rw [hk] at e2; injection e2 with e2; subst e2
    obtain ⟨b, hb, _⟩ := hH.obj i _ e3
    exact ⟨o, b, by rw [List.getElem?_eq_getElem (show k < Hc.length by omega), e1], e3, hb⟩
  have hback : ∀ (k : Nat) b, β[ids.getD k H.length]? = some (some b) → βc[k]? = some (some b) := fun k b hb => by
    rcases Nat.lt_or_ge k ids.length with h | h
    · rw [hβc]
      refine ⟨ids[k], List.getElem?_eq_getElem h, ?_⟩
      simpa [List.getD, h] using hb
    · have : ids.getD k H.length = H.length := by simp [List.getD, List.getElem?_eq_none h]
      rw [this, List.getElem?_eq_none (by rw [hH.len]; exact Nat.le_refl _)] at hb
      cases hb
  have hSim : HSim I βc Hc w := by
    refine ⟨by simp [βc, hpl], fun k o hk => ?_, fun k1 k2 o1 o2 b b' h1 h2 h3 h4 hbb => ?_, hH.imm, fun k b hb => ?_⟩
    · obtain ⟨o', i, e1, e2, e3⟩ := hps k _ hk
      injection e1 with e1; subst e1
      obtain ⟨b, hb, g1, g2, c, g3, g4⟩ := hH.obj i _ e3
      refine ⟨b, (hβc k b).2 ⟨i, e2, hb⟩, renRows_wide.1 g1, g2, c, (by rw [← memOf_ren]; exact g3), fun i' j x hx => ?_⟩
      obtain ⟨v, hv, g5, g6⟩ := g4 i' j (renC H.length ids x) (by show rowCell (renRows H.length ids o.rows) i' j = _; rw [renRows_cell, hx]; rfl)
      exact ⟨v, hv, g5, ren_back hback rfl g6⟩
    · obtain ⟨i1, e1, b1⟩ := (hβc k1 b).1 h3
      obtain ⟨i2, e2, b2⟩ := (hβc k2 b').1 h4
      obtain ⟨_, _, _, l1, _⟩ := hlive k1 i1 e1
      obtain ⟨_, _, _, l2, _⟩ := hlive k2 i2 e2
      have := hH.inj i1 i2 _ _ b b' l1 l2 b1 b2 hbb
      subst this
      exact allD_spec hd k1 k2 i1 e1 e2
    · obtain ⟨i, _, h⟩ := (hβc k b).1 hb
      exact hH.lt i b h
  have hcall := hc I βc w vals hSim (by rw [hl, ha, renL_length]) (fun j c hj => ren_back hback rfl (hargs j (renC H.length ids c) (by rw [ha, renL_get, hj]; rfl)))
  refine hcall.mono fun e w' h => ?_
  obtain ⟨r, Hc', I', β', v, he, hpost, hH', hr, hevo⟩ := h
  obtain ⟨hle, hk⟩ := hK r Hc' hpost
  have hidlt : ∀ i ∈ ids, i < H.length := fun i hi => by
    obtain ⟨k, hk⟩ := List.getElem?_of_mem hi
    obtain ⟨_, _, _, h, _⟩ := hlive k i hk
    exact (List.getElem?_eq_some_iff.1 h).1
  obtain ⟨t1, t2, t3, t4⟩ := taken_spec (d := 0) (rn := ids ++ tabl H.length (Hc'.length - ids.length)) (H := H) hle hd hidlt
  have hsk : ∀ (k i : Nat) b, ids[k]? = some i → β'[k]? = some (some b) → β[i]? = some (some b) := fun k i b hk hb => by
    obtain ⟨o, b0, _, _, h0⟩ := hlive k i hk
    have := hevo.pre k b0 ((hβc k b0).2 ⟨i, hk, h0⟩)
    rw [hb] at this; injection this with this; injection this with this; subst this
    exact h0
  have hβl : ∀ (i : Nat) b, β[i]? = some (some b) → (β ++ β'.drop ids.length)[i]? = some (some b) := fun i b hb => by
    rw [List.getElem?_append_left (List.getElem?_eq_some_iff.1 hb).1]; exact hb
  have hβr : ∀ (m : Nat), (β ++ β'.drop ids.length)[H.length + m]? = β'[ids.length + m]? := fun m => by
    rw [List.getElem?_append_right (by rw [hH.len]; omega), List.getElem?_drop]; congr 1; rw [hH.len]; omega
  have hfwd : ∀ (k : Nat) b, β'[k]? = some (some b) → (β ++ β'.drop ids.length)[(ids ++ tabl H.length (Hc'.length - ids.length)).getD k 0]? = some (some b) := fun k b hb => by
    have hklt : k < Hc'.length := by have := (List.getElem?_eq_some_iff.1 hb).1; rw [hH'.len] at this; exact this
    rcases Nat.lt_or_ge k ids.length with h | h
    · have e : (ids ++ tabl H.length (Hc'.length - ids.length)).getD k 0 = ids[k] := by simp [List.getD, List.getElem?_append_left h, h]
      rw [e]
      exact hβl _ b (hsk k _ b (List.getElem?_eq_getElem h) hb)
    · obtain ⟨m, rfl⟩ : ∃ m, k = ids.length + m := ⟨k - ids.length, by omega⟩
      have e : (ids ++ tabl H.length (Hc'.length - ids.length)).getD (ids.length + m) 0 = H.length + m := by
        rw [List.getD_eq_getElem?_getD, List.getElem?_append_right (by omega), tabl_get, if_pos (by omega), Option.getD_some]; congr 1; omega
      rw [e, hβr]; exact hb
  have hother : ∀ (i : Nat) o b, H[i]? = some (some o) → β[i]? = some (some b) → i ∉ ids → ∀ (k : Nat) c, βc[k]? = some (some c) → c.1 ≠ b.1 := fun i o b hi hb hn k c hkb hcb => by
    obtain ⟨i2, e2, b2⟩ := (hβc k c).1 hkb
    obtain ⟨_, _, _, l2, _⟩ := hlive k i2 e2
    have := hH.inj i i2 o _ b c hi l2 hb b2 hcb.symm
    subst this
    exact hn (List.mem_of_getElem? e2)
  have hkI : ∀ b, I b → w'.heap[b]? = w.heap[b]? ∧ I' b := hevo.keepI
  have hmono : ∀ {x : AV} {v : Value}, ARel I β w x v → ARel I' (β ++ β'.drop ids.length) w' x v := fun h => h.mono hkI hβl hevo.shape
  have hren : ∀ {x : AV} {v : Value}, ARel I' β' w' x v → ARel I' (β ++ β'.drop ids.length) w' (renC 0 (ids ++ tabl H.length (Hc'.length - ids.length)) x) v := fun h => ren_mono hfwd (fun b h => h) h
  have hosim : ∀ (k : Nat) o, Hc'[k]? = some (some o) → ∃ b, β'[k]? = some (some b) ∧ OSim I' (β ++ β'.drop ids.length) w' b (renO 0 (ids ++ tabl H.length (Hc'.length - ids.length)) o) := fun k o hk => by
    obtain ⟨b, hb, g1, g2, c, g3, g4⟩ := hH'.obj k o hk
    refine ⟨b, hb, renRows_wide.2 g1, g2, c, (by show _ = some (memOf (renRows _ _ _) c _); rw [memOf_ren]; exact g3), fun i j x hx => ?_⟩
    have hx' : (rowCell o.rows i j).map (renC 0 (ids ++ tabl H.length (Hc'.length - ids.length))) = some x := by rw [← renRows_cell]; exact hx
    obtain ⟨x0, hx0, rfl⟩ := Option.map_eq_some_iff.1 hx'
    obtain ⟨v, hv, g5, g6⟩ := g4 i j x0 hx0
    exact ⟨v, hv, g5, hren g6⟩
  -- which object lies where
  have hcase : ∀ (i : Nat) o, (taken 0 (ids ++ tabl H.length (Hc'.length - ids.length)) ids Hc' H)[i]? = some (some o) →
      (∃ k o0, Hc'[k]? = some (some o0) ∧ o = renO 0 (ids ++ tabl H.length (Hc'.length - ids.length)) o0 ∧ (ids ++ tabl H.length (Hc'.length - ids.length)).getD k 0 = i) ∨ (i ∉ ids ∧ H[i]? = some (some o)) := fun i o ho => by
    have hilt := (List.getElem?_eq_some_iff.1 ho).1
    rw [t1] at hilt
    rcases Nat.lt_or_ge i H.length with h | h
    · by_cases hi : i ∈ ids
      · obtain ⟨k, hk⟩ := List.getElem?_of_mem hi
        have hklt := (List.getElem?_eq_some_iff.1 hk).1
        have := t2 k i _ hk (List.getElem?_eq_getElem (show k < Hc'.length by omega))
        rw [ho] at this
        injection this with this
        cases hoc : Hc'[k]'(by omega) with
        | none => rw [hoc] at this; simp [renOpt] at this
        | some o0 =>
          rw [hoc] at this; simp only [renOpt, Option.some.injEq] at this
          refine .inl ⟨k, o0, by rw [List.getElem?_eq_getElem (show k < Hc'.length by omega), hoc], this, ?_⟩
          rw [List.getD_eq_getElem?_getD, List.getElem?_append_left hklt, hk]; rfl
      · rw [t3 i h hi] at ho
        exact .inr ⟨hi, ho⟩
    · obtain ⟨m, rfl⟩ : ∃ m, i = H.length + m := ⟨i - H.length, by omega⟩
      rw [t4 m] at ho
      simp only [Option.map_eq_some_iff] at ho
      obtain ⟨oo, hoo, he⟩ := ho
      cases oo with
      | none => simp [renOpt] at he
      | some o0 =>
        simp only [renOpt, Option.some.injEq] at he
        refine .inl ⟨ids.length + m, o0, hoo, he.symm, ?_⟩
        rw [List.getD_eq_getElem?_getD, List.getElem?_append_right (by omega), tabl_get, if_pos (by omega), Option.getD_some]; omega
  have hinjrn : ∀ (k1 k2 i : Nat) (b : Nat), (ids ++ tabl H.length (Hc'.length - ids.length)).getD k1 0 = i → (ids ++ tabl H.length (Hc'.length - ids.length)).getD k2 0 = i → True := fun _ _ _ _ _ _ => trivial
  refine ⟨_, _, I', β ++ β'.drop ids.length, v, he, hk, ⟨?_, fun i o ho => ?_, fun i j oi oj b b' hi hj hbi hbj hbb => ?_, hH'.imm, fun i b hb => ?_⟩, hren hr, ⟨hevo.os, hevo.tape, hevo.output, hevo.size, hβl, fun i b hb => ?_, fun b hb hn => ?_, hkI, fun b hb hI => ?_, hevo.shape, hevo.drawn⟩, fun s hs => ?_⟩
  · rw [t1, List.length_append, List.length_drop, hH.len, hH'.len]
  · rcases hcase i o ho with ⟨k, o0, g1, rfl, rfl⟩ | ⟨hn, hi⟩
    · obtain ⟨b, hb, hos⟩ := hosim k o0 g1
      exact ⟨b, hfwd k b hb, hos⟩
    · obtain ⟨b, hb, hos⟩ := hH.obj i o hi
      have hblt := hH.lt i b hb
      refine ⟨b, hβl i b hb, hos.mono hkI hβl hevo.shape (hevo.keep b.1 hblt (hother i o b hi hb hn)) (fun hI => ?_)⟩
      rcases hevo.old b.1 hblt hI with h | ⟨k, c, h, hc⟩
      · exact h
      · exact absurd hc (hother i o b hi hb hn k c h)
  · -- no two live objects share a block
    have blk : ∀ (i : Nat) o b, (taken 0 (ids ++ tabl H.length (Hc'.length - ids.length)) ids Hc' H)[i]? = some (some o) → (β ++ β'.drop ids.length)[i]? = some (some b) →
        (∃ k o0, Hc'[k]? = some (some o0) ∧ β'[k]? = some (some b) ∧ (ids ++ tabl H.length (Hc'.length - ids.length)).getD k 0 = i) ∨ (i ∉ ids ∧ H[i]? = some (some o) ∧ β[i]? = some (some b)) := fun i o b ho hb => by
      rcases hcase i o ho with ⟨k, o0, g1, _, g3⟩ | ⟨hn, hi⟩
      · obtain ⟨b0, hb0, _⟩ := hosim k o0 g1
        have := hfwd k b0 hb0
        rw [g3, hb] at this; injection this with this; injection this with this; subst this
        exact .inl ⟨k, o0, g1, hb0, g3⟩
      · obtain ⟨b0, hb0, _⟩ := hH.obj i o hi
        have := hβl i b0 hb0
        rw [hb] at this; injection this with this; injection this with this; subst this
        exact .inr ⟨hn, hi, hb0⟩
    have cross : ∀ (k i : Nat) o0 o b b', b.1 = b'.1 → Hc'[k]? = some (some o0) → β'[k]? = some (some b) → i ∉ ids → H[i]? = some (some o) → β[i]? = some (some b') → False := fun k i o0 o b b' hbb g1 g2 g3 g4 g5 => by
      rcases hevo.fresh k b g2 with h | ⟨k2, c, h, hc⟩
      · exact absurd (hH.lt i b' g5) (by omega)
      · exact hother i o b' g4 g5 g3 k2 c h (hc.trans hbb)
    rcases blk i oi b hi hbi with ⟨k1, o1, g1, g2, g3⟩ | ⟨g1, g2, g3⟩
    · rcases blk j oj b' hj hbj with ⟨k2, o2, l1, l2, l3⟩ | ⟨l1, l2, l3⟩
      · have := hH'.inj k1 k2 o1 o2 b b' g1 l1 g2 l2 hbb
        subst this
        exact g3.symm.trans l3
      · exact (cross k1 j o1 oj b b' hbb g1 g2 l1 l2 l3).elim
    · rcases blk j oj b' hj hbj with ⟨k2, o2, l1, l2, l3⟩ | ⟨l1, l2, l3⟩
      · exact (cross k2 i o2 oi b' b hbb.symm l1 l2 g1 g2 g3).elim
      · exact hH.inj i j oi oj b b' g2 l2 g3 l3 hbb
  · rcases Nat.lt_or_ge i H.length with h | h
    · rw [List.getElem?_append_left (by rw [hH.len]; exact h)] at hb
      exact Nat.lt_of_lt_of_le (hH.lt i b hb) hevo.size
    · obtain ⟨m, rfl⟩ : ∃ m, i = H.length + m := ⟨i - H.length, by omega⟩
      rw [hβr] at hb
      exact hH'.lt _ b hb
  · rcases Nat.lt_or_ge i H.length with h | h
    · rw [List.getElem?_append_left (by rw [hH.len]; exact h)] at hb
      exact .inr ⟨i, b, hb, rfl⟩
    · obtain ⟨m, rfl⟩ : ∃ m, i = H.length + m := ⟨i - H.length, by omega⟩
      rw [hβr] at hb
      rcases hevo.fresh _ b hb with h | ⟨j, c, h, hc⟩
      · exact .inl h
      · obtain ⟨i2, _, h2⟩ := (hβc j c).1 h
        exact .inr ⟨i2, c, h2, hc⟩
  · refine hevo.keep b hb (fun k c hkb => ?_)
    obtain ⟨i2, _, h2⟩ := (hβc k c).1 hkb
    exact hn i2 c h2
  · rcases hevo.old b hb hI with h | ⟨k, c, h, hc⟩
    · exact .inl h
    · obtain ⟨i2, _, h2⟩ := (hβc k c).1 h
      exact .inr ⟨i2, c, h2, hc⟩
  · rw [List.getElem?_append_left (List.getElem?_eq_some_iff.1 hs).1]; exact hs
theorem vcFun0_sound (hH : HSim I β H w) {f : FuncId} {args : List AV} {vals : Array Value} (hl : vals.size = args.length) (hargs : ∀ (j : Nat) c, args[j]? = some c → ARel I β w c (vals.getD j undef)) {K : AV → Heap → Prop}
    (h : vcFun0 P f args H K) : Enterable P f ∧ CallsOut P I β w f vals K := by
  rcases h with h | ⟨ids, Hc, as_, Post, h1, h2, h3, h4, h5⟩
  · split at h
    · rename_i as0 hc
      obtain ⟨hok, as_, Post, he, hp, hK⟩ := h
      exact pure_call hH hl hargs hc hok he hp hK
    · exact h.elim
  · exact obj_call hH hl hargs h1 h2 h3 h4 h5
theorem vcFun_sound (hH : HSim I β H w) {f : FuncId} {args : List AV} {vals : Array Value} (hl : vals.size = args.length) (hargs : ∀ (j : Nat) c, args[j]? = some c → ARel I β w c (vals.getD j undef)) {K : AV → Heap → Prop}
    (h : vcFun P f args H K) : Enterable P f ∧ CallsOut P I β w f vals K := by
  obtain ⟨as_, hle, h⟩ := h
  obtain ⟨h1, h2⟩ := hle.spec
  exact vcFun0_sound hH (by rw [hl, h1]) (fun j c hc => by
    obtain ⟨x, hx, hxc⟩ := h2 j c hc
    exact hxc _ _ _ _ (hargs j x hx)) h
end
end Go.Cw
/-
  Cw, part X: frames; a list of operations in the text's order.
-/
namespace Go.Cw
set_option linter.unusedVariables false
section
variable {P : Program} {T : Tab} {n : Nat}
def gput (g : Nat → Option AV) (d : Option Tmp) (v : AV) : Nat → Option AV :=
  match d with
  | some t => fun s => if t = s then some v else g s
  | none => g
theorem get_put (Γ : Slots) (d : Option Tmp) (v : AV) : get (put Γ d v) = gput (get Γ) d v := by
  cases d with
  | none => rfl
  | some t => funext s; exact get_cons Γ t s v
variable {I0 : Nat → Prop} {β0 : Beta} {w0 : World}
theorem dstOk_lt {o : Oper} (h : dstOk n o = true) {d : Tmp} (hd : o.dst = some d) : d < n := by
  simpa [dstOk, hd, Nat.blt_eq] using h
theorem Sim.put {lo cnt lo' cnt' : Nat} {g : Nat → Option AV} {H H' : Heap} {I I' : Nat → Prop} {β β' : Beta} {a : Act} {w w' : World} (hs : Sim I0 β0 w0 n lo cnt g H I β a w) {o : Oper} (hd : dstOk n o = true) {r : AV} {v : Value}
    (hH : HSim I' β' H' w') (hr : ARel I' β' w' r v) (hevo : Evo I β w I' β' w') (hfree : ∀ s, lo' ≤ s → s < lo' + cnt' → β'[s]? = some none) :
    Sim I0 β0 w0 n lo' cnt' (gput g o.dst r) H' I' β' (a.put o.dst v) w' := by
  refine ⟨hH, ?_, ?_, fun s x hx => ?_, hs.evo.trans hevo, hfree⟩
  · cases hd' : o.dst <;> simpa [Act.put] using hs.defers
  · cases hd' : o.dst <;> simpa [Act.put] using hs.size
  · cases hd' : o.dst with
    | none =>
      rw [hd'] at hx
      exact hevo.mono (hs.slot s x hx)
    | some d =>
      have hlt := dstOk_lt hd hd'
      rw [hd'] at hx
      simp only [gput] at hx
      simp only [Act.put]
      by_cases h : d = s
      · subst h
        rw [if_pos rfl] at hx
        injection hx with hx; subst hx
        have : d < a.tmps.size := by rw [hs.size]; exact hlt
        simpa [this] using hr
      · rw [if_neg h] at hx
        have e : (a.tmps.setIfInBounds d v).getD s undef = a.tmps.getD s undef := by
          simp [Array.getElem?_setIfInBounds_ne h]
        rw [e]
        exact hevo.mono (hs.slot s x hx)
theorem Sim.skip {lo cnt lo' cnt' : Nat} {g : Nat → Option AV} {H : Heap} {I : Nat → Prop} {β : Beta} {a : Act} {w : World} (hs : Sim I0 β0 w0 n lo cnt g H I β a w) {o : Oper} (hd : dstOk n o = true)
    (hfree : ∀ s, lo' ≤ s → s < lo' + cnt' → β[s]? = some none) : Sim I0 β0 w0 n lo' cnt' (gput g o.dst (.pv (.val undef))) H I β (a.put o.dst undef) w :=
  hs.put hd hs.h (rel_val _) (Evo.refl _ _ _) hfree
def KnOk (dc : Known) (g : Nat → Option AV) : Prop := ∀ s b, kn dc s = some b → g s = some (vbool b)
theorem knOf_ok {dc : Known} {g : Nat → Option AV} (hk : KnOk dc g) {x : Operand} {b : Bool} (h : knOf dc x = some b) : evF g x = some (vbool b) := by
  unfold knOf at h
  split at h
  · injection h with h; subst h; rfl
  · exact hk _ _ h
  · cases h
theorem kn_op {dc : Known} {g : Nat → Option AV} (hk : KnOk dc g) {op : Op} {site : Nat} {H : Heap} {K : AV → Upd → List Nat → Prop} (h : vcOp T site (simpOp dc op) (evF g) H K) :
    vcOp T site op (evF g) H fun r u rd => K r u rd ∧ ∀ b, knRes dc op = some b → r = vbool b := by
  have vac : ∀ {op' : Op}, knRes dc op = none → vcOp T site op' (evF g) H K → vcOp T site op' (evF g) H fun r u rd => K r u rd ∧ ∀ b, knRes dc op = some b → r = vbool b := fun hn hv => by
    have e : (fun r u rd => K r u rd ∧ ∀ b, knRes dc op = some b → r = vbool b) = K := by
      funext r u rd; simp [hn]
    rw [e]; exact hv
  cases hn : knRes dc op with
  | none =>
    rw [hn] at vac
    have vac := @vac op rfl
    cases op with
    | pick c a b =>
      apply vac
      simp only [simpOp] at h
      split at h
      · rename_i hc
        have e := knOf_ok hk hc
        simp only [vcOp, e, vcPick, vbool] at h ⊢
        exact ⟨fun _ => h, fun h => by cases h⟩
      · rename_i hc
        have e := knOf_ok hk hc
        simp only [vcOp, e, vcPick, vbool] at h ⊢
        exact ⟨fun h => (by cases h), fun _ => h⟩
      · exact h
    | _ => exact vac h
  | some b0 =>
    have mv : ∀ {x : Operand}, knOf dc x = some b0 → vcOp T site (.move x) (evF g) H K → K (vbool b0) [] [] := fun hx hv => by
      simp only [vcOp, knOf_ok hk hx] at hv; exact hv
    cases op <;> simp only [knRes] at hn <;> try (cases hn; done)
    · rename_i x
      have := mv hn h
      simp only [vcOp, knOf_ok hk hn]
      exact ⟨this, fun b hb => by injection hb with hb; subst hb; rfl⟩
    · rename_i x
      have := mv hn (by simpa [vcOp, simpOp] using h)
      simp only [vcOp, knOf_ok hk hn]
      exact ⟨this, fun b hb => by injection hb with hb; subst hb; rfl⟩
    · rename_i c x y
      simp only [simpOp] at h
      split at hn
      · rename_i hc
        rw [hc] at h
        have := mv hn h
        simp only [vcOp, knOf_ok hk hc, vcPick, vbool]
        refine ⟨fun _ => ?_, fun h => by cases h⟩
        simp only [knOf_ok hk hn]
        exact ⟨this, fun b hb => by injection hb with hb; subst hb; rfl⟩
      · rename_i hc
        rw [hc] at h
        have := mv hn h
        simp only [vcOp, knOf_ok hk hc, vcPick, vbool]
        refine ⟨fun h => (by cases h), fun _ => ?_⟩
        simp only [knOf_ok hk hn]
        exact ⟨this, fun b hb => by injection hb with hb; subst hb; rfl⟩
      · cases hn
theorem knOut_spec : ∀ {dc : Known} {s : Nat} {K : Known → Prop}, knOut dc s K → ∃ dc', K dc' ∧ ∀ t b, kn dc' t = some b → kn dc t = some b ∧ t ≠ s
  | [], s, K, h => ⟨[], h, fun t b ht => by simp [kn] at ht⟩
  | (k, b0) :: l, s, K, h => by
    simp only [knOut] at h
    split at h
    · rename_i hk
      have hk := Nat.eq_of_beq_eq_true hk; subst hk
      obtain ⟨dc', h1, h2⟩ := knOut_spec h
      refine ⟨dc', h1, fun t b ht => ?_⟩
      obtain ⟨h3, h4⟩ := h2 t b ht
      refine ⟨?_, h4⟩
      simp only [kn]
      have : Nat.beq k t = false := by
        cases hb : Nat.beq k t
        · rfl
        · exact absurd (Nat.eq_of_beq_eq_true hb).symm h4
      rw [this]; exact h3
    · rename_i hk
      obtain ⟨dc', h1, h2⟩ := knOut_spec h
      refine ⟨_, h1, fun t b ht => ?_⟩
      simp only [kn] at ht ⊢
      cases hb : Nat.beq k t
      · rw [hb] at ht
        exact ⟨by simpa using (h2 t b (by simpa using ht)).1, (h2 t b (by simpa using ht)).2⟩
      · rw [hb] at ht
        have := Nat.eq_of_beq_eq_true hb; subst this
        refine ⟨by simpa using ht, fun e => ?_⟩
        subst e
        simp at hk
theorem knPut_spec {dc : Known} {o : Oper} {K : Known → Prop} {g : Nat → Option AV} (hk : KnOk dc g) (h : knPut dc o K) : ∃ dc', K dc' ∧ ∀ r, (∀ b, knRes dc o.op = some b → r = vbool b) → KnOk dc' (gput g o.dst r) := by
  unfold knPut at h
  split at h
  · rename_i d hd
    have old : ∀ {dc' : Known}, (∀ t b, kn dc' t = some b → kn dc t = some b ∧ t ≠ d) → ∀ r s b, kn dc' s = some b → gput g (some d) r s = some (vbool b) := fun h2 r s b hs => by
      obtain ⟨h3, h4⟩ := h2 s b hs
      have hne : d ≠ s := fun e => h4 e.symm
      simp only [gput, if_neg hne]
      exact hk s b h3
    have new : ∀ {dc' : Known} {b0 : Bool}, (∀ t b, kn dc' t = some b → kn dc t = some b ∧ t ≠ d) → knRes dc o.op = some b0 → ∀ r, (∀ b, knRes dc o.op = some b → r = vbool b) → KnOk ((d, b0) :: dc') (gput g o.dst r) := fun h2 hb r hr s b hs => by
      rw [hd]
      simp only [kn] at hs
      cases hbeq : Nat.beq d s
      · rw [hbeq] at hs; exact old h2 r s b (by simpa using hs)
      · rw [hbeq] at hs
        have := Nat.eq_of_beq_eq_true hbeq; subst this
        simp only [cond_true, Option.some.injEq] at hs; subst hs
        simp only [gput, if_true]
        rw [hr _ hb]
    split at h
    · rename_i hb
      obtain ⟨dc', h1, h2⟩ := knOut_spec h
      exact ⟨_, h1, new h2 hb⟩
    · rename_i hb
      obtain ⟨dc', h1, h2⟩ := knOut_spec h
      exact ⟨_, h1, new h2 hb⟩
    · obtain ⟨dc', h1, h2⟩ := knOut_spec h
      exact ⟨_, h1, fun r _ => by rw [hd]; exact old h2 r⟩
  · rename_i hd
    exact ⟨dc, h, fun r _ => by rw [hd]; exact hk⟩
theorem knSkip_spec {dc : Known} {o : Oper} {K : Known → Prop} {g : Nat → Option AV} (hk : KnOk dc g) (h : knSkip dc o K) : ∃ dc', K dc' ∧ ∀ r, KnOk dc' (gput g o.dst r) := by
  unfold knSkip at h
  split at h
  · rename_i d hd
    obtain ⟨dc', h1, h2⟩ := knOut_spec h
    refine ⟨_, h1, fun r s b hs => ?_⟩
    obtain ⟨h3, h4⟩ := h2 s b hs
    rw [hd]
    have hne : d ≠ s := fun e => h4 e.symm
    simp only [gput, if_neg hne]
    exact hk s b h3
  · rename_i hd
    exact ⟨dc, h, fun r => by rw [hd]; exact hk⟩
theorem vcGuard_sound {ops : Array Oper} {g : Nat → Option AV} {Γ : Slots} (hg : get Γ = g) {dc : Known} (hk : KnOk dc g) {a : Act} {I : Nat → Prop} {β : Beta} {w : World} (hs : ∀ s x, g s = some x → ARel I β w x (a.tmps.getD s undef))
    {o : Oper} {run skip : Known → Prop} (h : vcGuard ops.toList Γ dc o.guard run skip) :
    (Region.wanted o (yielded ops a.tmps) = true ∧ ∃ dc', KnOk dc' g ∧ run dc') ∨ (Region.wanted o (yielded ops a.tmps) = false ∧ ∃ dc', KnOk dc' g ∧ skip dc') := by
  unfold vcGuard at h
  split at h
  · rename_i hgd
    exact .inl ⟨by simp [Region.wanted, hgd], dc, hk, h⟩
  · rename_i j want hgd
    split at h
    · rename_i o' ho'
      split at h
      · rename_i d hd
        have ho2 : ops[j]? = some o' := by simpa using ho'
        have yes : ∀ b : Bool, g d = some (vbool b) → yielded ops a.tmps j = some b := fun b hb => by
          have hv := val_inv (hs d _ hb)
          have hlt : d < a.tmps.size := by
            rcases Nat.lt_or_ge d a.tmps.size with h | h
            · exact h
            · simp [Array.getD, Nat.not_lt.2 h, undef] at hv
          have h2 : a.tmps[d]? = some (.bool b) := by
            simp [hlt] at hv
            simp [hlt, hv]
          simp [yielded, ho2, hd, h2]
        have cons : ∀ b : Bool, g d = some (vbool b) → KnOk ((d, b) :: dc) g := fun b hb s b' hs' => by
          simp only [kn] at hs'
          cases hbeq : Nat.beq d s
          · rw [hbeq] at hs'; exact hk s b' (by simpa using hs')
          · rw [hbeq] at hs'
            have := Nat.eq_of_beq_eq_true hbeq; subst this
            simp only [cond_true, Option.some.injEq] at hs'; subst hs'
            exact hb
        have wn : ∀ b : Bool, g d = some (vbool b) → Region.wanted o (yielded ops a.tmps) = (b == want) := fun b hb => by
          simp [Region.wanted, hgd, yes b hb]
        split at h
        · rename_i b hkn
          have hb := hk _ _ hkn
          split at h
          · exact .inl ⟨wn _ hb, dc, hk, h⟩
          · exact .inl ⟨wn _ hb, dc, hk, h⟩
          · rename_i hne1 hne2
            refine .inr ⟨?_, dc, hk, h⟩
            rw [wn _ hb]
            cases b <;> cases want <;> first | rfl | exact absurd rfl (hne1 · rfl) | exact absurd rfl (hne2 · rfl)
        · split at h
          · rename_i b hb
            rw [hg] at hb
            have hb : g d = some (vbool b) := hb
            split at h
            · cases b
              · exact .inr ⟨wn _ hb, _, cons _ hb, h.2 rfl⟩
              · exact .inl ⟨wn _ hb, _, cons _ hb, h.1 rfl⟩
            · cases b
              · exact .inl ⟨wn _ hb, _, cons _ hb, h.1 rfl⟩
              · exact .inr ⟨wn _ hb, _, cons _ hb, h.2 rfl⟩
          · rename_i vs hb
            rw [hg] at hb
            have hv := val_inv (hs d _ hb)
            refine .inr ⟨?_, dc, hk, h⟩
            have : yielded ops a.tmps j = none := by
              have h2 : a.tmps[d]? = some (.tuple vs) ∨ a.tmps[d]? = none := by
                rcases Nat.lt_or_ge d a.tmps.size with h | h
                · left; simp [h] at hv; simp [h, hv]
                · right; simp [h]
              rcases h2 with h2 | h2 <;> simp [yielded, ho2, hd, h2]
            simp [Region.wanted, hgd, this]
          · exact h.elim
      · exact h.elim
    · exact h.elim
theorem func_inv {I : Nat → Prop} {β : Beta} {w : World} {fv : AV} {v : Value} {f : FuncId} {caps : List AV} (hf : fv = .fn f caps ∨ ∃ ps, fv = .pv (.fn f ps) ∧ caps = pvs ps) (h : ARel I β w fv v) :
    ∃ cv, v = .func (.func f) #[] cv ∧ cv.size = caps.length ∧ ∀ (j : Nat) c, caps[j]? = some c → ARel I β w c (cv.getD j undef) := by
  rcases hf with rfl | ⟨ps, rfl, rfl⟩
  · cases h with
    | fn hl hc => exact ⟨_, rfl, hl, hc⟩
  · cases h with
    | pv h => cases h with
      | fn hl hc =>
        refine ⟨_, rfl, by rw [hl, pvs_length], fun j c hj => ?_⟩
        obtain ⟨p, hp, rfl⟩ := pvs_get.1 hj
        exact .pv (hc j p hp)
theorem vcStep_sound (hT : TabOk P T) {lo cnt : Nat} {g : Nat → Option AV} {Γ : Slots} (hg : get Γ = g) {H : Heap} {I : Nat → Prop} {β : Beta} {a : Act} {w : World} (hs : Sim I0 β0 w0 n lo cnt g H I β a w) {dc : Known} (hk : KnOk dc g) {o : Oper}
    (hd : dstOk n o = true) (hal : isAlloc o.op = true → 0 < cnt) {K : Slots → Heap → Prop} (h : vcStep P T lo o.dst (simpOp dc o.op) Γ H K) {next : Act → World → Prop} {Q : Exit → Act → World → Prop}
    (hnext : ∀ r Γ' H' a' w', (∀ b, knRes dc o.op = some b → r = vbool b) → get Γ' = gput g o.dst r → K Γ' H' → SimE I0 β0 w0 n (bif isAlloc o.op then lo + 1 else lo) (bif isAlloc o.op then cnt - 1 else cnt) (get Γ') H' a' w' → next a' w') :
    o.wp P a w next Q := by
  have hρ : ∀ x v, evF g x = some v → ARel I β w v (a.eval x) := fun x v hx => evF_sound hs.h.imm.gl hs.slot hx
  have hcl : ∀ {c : Call}, o.op = .call c → knRes dc o.op = none := fun e => by rw [e]; rfl
  unfold vcStep at h
  split at h
  · rename_i f args ats hop
    have hop' : o.op = .call { callee := .value f, args := args, argTypes := ats } := by
      have hop := hop
      cases ho : o.op <;> rw [ho] at hop <;> simp only [simpOp] at hop <;> try (cases hop; done)
      · split at hop <;> cases hop
      · exact hop
    rw [ev_eq, hg] at h
    split at h
    · rename_i fv vs hfv hvs
      have hm : vs.length = args.toList.length ∧ ∀ (j : Nat) y, vs[j]? = some y → ∃ x, args.toList[j]? = some x ∧ evF g x = some y := mapO_spec hvs
      have key : ∀ {fid : FuncId} {caps : List AV}, (fv = .fn fid caps ∨ ∃ ps, fv = .pv (.fn fid ps) ∧ caps = pvs ps) → vcFun P fid (vs ++ caps) H (fun r H' => putK Γ o.dst r fun Γ' => forceH H' fun H2 => K Γ' H2) → o.wp P a w next Q := by
        intro fid caps hfc hcall
        obtain ⟨cv, hcv, hcl2, hcr⟩ := func_inv hfc (hρ _ _ hfv)
        have hvals : (args.map a.eval ++ cv).size = (vs ++ caps).length := by simp [hm.1, hcl2]
        obtain ⟨⟨fn, hfn, hname, hbody⟩, hout⟩ := vcFun_sound (vals := args.map a.eval ++ cv) hs.h hvals (fun j c hj => by
          rcases Nat.lt_or_ge j vs.length with h | h
          · rw [List.getElem?_append_left h] at hj
            obtain ⟨x, hx, hxe⟩ := hm.2 j c hj
            have hlt : j < args.size := by have := (List.getElem?_eq_some_iff.1 hx).1; simpa using this
            have e : (args.map a.eval ++ cv).getD j undef = a.eval x := by
              have hx2 : args[j] = x := by simpa [hlt] using hx
              have h1 : j < (args.map a.eval ++ cv).size := by simp; omega
              simp only [Array.getD, h1, dif_pos]
              show (args.map a.eval ++ cv)[j] = _
              rw [Array.getElem_append_left (by simpa using hlt)]
              simp [hx2]
            rw [e]; exact hρ _ _ hxe
          · rw [List.getElem?_append_right h] at hj
            have hlt := (List.getElem?_eq_some_iff.1 hj).1
            have hsz : vs.length = args.size := by simpa using hm.1
            have e : (args.map a.eval ++ cv).getD j undef = cv.getD (j - vs.length) undef := by
              have h1 : j < (args.map a.eval ++ cv).size := by simp; omega
              have h2 : j - vs.length < cv.size := by omega
              simp only [Array.getD, h1, h2, dif_pos]
              show (args.map a.eval ++ cv)[j] = cv[j - vs.length]
              rw [Array.getElem_append_right (by simp; omega)]
              simp [hsz]
            rw [e]; exact hcr _ c hj) hcall
        have hrun : (execOp a.eval o).run P w = .ok (.enter fid (args.map a.eval ++ cv)) w := by
          have hcf : (callFunc fid (args.map a.eval ++ cv)).run P w = .ok (.enter fid (args.map a.eval ++ cv)) w := by
            unfold callFunc
            simp only [Sem.run_bind, run_program, Result.andThen_ok, hfn, hname, Bool.false_eq_true, if_false, hbody, Sem.run_pure]
          simp only [execOp, hop', resolve, hcv, Deferred.ofValue, Sem.run_bind, Sem.run_pure, Result.andThen_ok, invoke]
          simpa using hcf
        unfold Oper.wp
        rw [hrun]
        simp only [Oper.upon]
        refine hout.mono fun e w' he => ?_
        obtain ⟨r, H2, I', β', v, rfl, hk2, hH2, hr2, hevo, hfr⟩ := he
        rw [putK_eq, forceH_eq] at hk2
        have hia : isAlloc o.op = false := by rw [hop']; rfl
        refine hnext r _ H2 _ _ (fun b hb => by rw [hcl hop'] at hb; cases hb) (by rw [get_put, hg]) hk2 ⟨I', β', ?_⟩
        rw [get_put, hg, hia]
        exact hs.put hd hH2 hr2 hevo (fun s h1 h2 => hfr s (hs.free s h1 h2))
      unfold vcCall at h
      split at h
      · exact key (.inr ⟨_, rfl, rfl⟩) h
      · exact key (.inl rfl) h
      · exact h.elim
    · exact h.elim
  · have hop : vcOp T lo o.op (evF g) H fun r u rd => (putK Γ o.dst r fun Γ' => appK H u fun H2 => K Γ' H2) ∧ ∀ b, knRes dc o.op = some b → r = vbool b := by
      rw [ev_eq, hg] at h
      exact kn_op hk h
    obtain ⟨r, u, rd, ⟨hk2, hkb⟩, nx, v, w', hrun, hnx, I', β', hH', hr', hevo, hfr⟩ := vcOp_sound hT hs.h hρ (o := o) (site := lo) (fun hal' => hs.free lo (Nat.le_refl _) (by have := hal hal'; omega)) hop
    rw [putK_eq, appK_eq] at hk2
    have hfin : next (a.put o.dst v) w' := by
      refine hnext r _ (app H u) _ _ hkb (by rw [get_put, hg]) hk2 ⟨I', β', ?_⟩
      rw [get_put, hg]
      refine hs.put hd hH' hr' hevo (fun s h1 h2 => ?_)
      cases hia : isAlloc o.op
      · rw [hia] at h1 h2 hfr
        refine hfr s (hs.free s h1 h2) (fun e => ?_)
        have := (List.getElem?_eq_some_iff.1 (hs.free s h1 h2)).1
        simp only [cond_false] at e; omega
      · rw [hia] at h1 h2 hfr
        simp only [cond_true] at h1 h2 hfr
        have := hal hia
        exact hfr s (hs.free s (by omega) (by omega)) (by omega)
    unfold Oper.wp
    rw [hrun]
    rcases hnx with rfl | ⟨rfl, rfl⟩
    · exact hfin
    · exact hfin
end
end Go.Cw
/-
  Cw, part W: other numbers for the objects; statements that do not draw; code.
-/
namespace Go.Cw
set_option linter.unusedVariables false
section
variable {P : Program} {T : Tab} {n nh : Nat}
theorem kept_spec {H : Heap} {d : Nat} {rn : List Nat} : ∀ {ids : List Nat} {Hc : Heap}, kept H d rn ids Hc → Hc.length = ids.length ∧ ∀ (k : Nat) o, Hc[k]? = some (some o) → ∃ i, ids[k]? = some i ∧ H[i]? = some (some (renO d rn o))
  | [], [], _ => by simp
  | [], o :: Hc, h => by cases o <;> simp [kept] at h
  | i :: l, [], h => by simp [kept] at h
  | i :: l, none :: Hc, h => by
    simp only [kept] at h
    obtain ⟨h1, h2⟩ := kept_spec h
    refine ⟨by simp [h1], fun k o hk => ?_⟩
    cases k with
    | zero => simp at hk
    | succ k => obtain ⟨i, e2, e3⟩ := h2 k o (by simpa using hk); exact ⟨i, by simpa using e2, e3⟩
  | i :: l, some o :: Hc, h => by
    simp only [kept] at h
    obtain ⟨h1, h2⟩ := kept_spec h.2
    refine ⟨by simp [h1], fun k o' hk => ?_⟩
    cases k with
    | zero => simp at hk; subst hk; exact ⟨i, rfl, h.1⟩
    | succ k => obtain ⟨i, e2, e3⟩ := h2 k o' (by simpa using hk); exact ⟨i, by simpa using e2, e3⟩
def renB (β : Beta) (rn : List Nat) : Beta := rn.map fun i => (β[i]?).getD none
theorem renB_get {β : Beta} {rn : List Nat} (k : Nat) (b : Nat × Nat) : (renB β rn)[k]? = some (some b) ↔ ∃ i, rn[k]? = some i ∧ β[i]? = some (some b) := by
  simp only [renB, List.getElem?_map, Option.map_eq_some_iff]
  constructor
  · rintro ⟨i, hi, h⟩
    refine ⟨i, hi, ?_⟩
    cases hb : β[i]? with
    | none => simp [hb] at h
    | some x => simp [hb] at h; rw [h]
  · rintro ⟨i, hi, h⟩
    exact ⟨i, hi, by simp [h]⟩
theorem renB_back {I : Nat → Prop} {β : Beta} {H : Heap} {w : World} (hH : HSim I β H w) {rn : List Nat} (k : Nat) (b : Nat × Nat) (hb : β[rn.getD k H.length]? = some (some b)) : (renB β rn)[k]? = some (some b) := by
  rcases Nat.lt_or_ge k rn.length with h | h
  · rw [renB_get]
    refine ⟨rn[k], List.getElem?_eq_getElem h, ?_⟩
    simpa [List.getD, h] using hb
  · have : rn.getD k H.length = H.length := by simp [List.getD, List.getElem?_eq_none h]
    rw [this, List.getElem?_eq_none (by rw [hH.len]; exact Nat.le_refl _)] at hb
    cases hb
theorem HSim.ren {I : Nat → Prop} {β : Beta} {H Hc : Heap} {w : World} (hH : HSim I β H w) {rn : List Nat} (hd : allD rn = true) (hp : kept H H.length rn rn Hc) : HSim I (renB β rn) Hc w := by
  obtain ⟨hpl, hps⟩ := kept_spec hp
  refine ⟨by simp [renB, hpl], fun k o hk => ?_, fun k1 k2 o1 o2 b b' h1 h2 h3 h4 hbb => ?_, hH.imm, fun k b hb => ?_⟩
  · obtain ⟨i, e2, e3⟩ := hps k _ hk
    obtain ⟨b, hb, g1, g2, c, g3, g4⟩ := hH.obj i _ e3
    refine ⟨b, (renB_get k b).2 ⟨i, e2, hb⟩, renRows_wide.1 g1, g2, c, (by rw [← memOf_ren]; exact g3), fun i' j x hx => ?_⟩
    obtain ⟨v, hv, g5, g6⟩ := g4 i' j (renC H.length rn x) (by show rowCell (renRows H.length rn o.rows) i' j = _; rw [renRows_cell, hx]; rfl)
    exact ⟨v, hv, g5, ren_back (renB_back hH) rfl g6⟩
  · obtain ⟨i1, e1, b1⟩ := (renB_get k1 b).1 h3
    obtain ⟨i2, e2, b2⟩ := (renB_get k2 b').1 h4
    obtain ⟨i1', e1', l1⟩ := hps k1 _ h1
    obtain ⟨i2', e2', l2⟩ := hps k2 _ h2
    rw [e1] at e1'; injection e1' with e1'; subst e1'
    rw [e2] at e2'; injection e2' with e2'; subst e2'
    have := hH.inj i1 i2 _ _ b b' l1 l2 b1 b2 hbb
    subst this
    exact allD_spec hd k1 k2 i1 e1 e2
  · obtain ⟨i, _, h⟩ := (renB_get k b).1 hb
    exact hH.lt i b h
theorem Evo.ren {I0 I : Nat → Prop} {β0 β : Beta} {w0 w : World} (he : Evo I0 β0 w0 I β w) {rn : List Nat} (hl : β0.length ≤ nh) (ht : rn.take nh = tabl 0 nh) : Evo I0 β0 w0 I (renB β rn) w := by
  refine ⟨he.os, he.tape, he.output, he.size, fun i b hb => ?_, fun i b hb => ?_, he.keep, he.keepI, he.old, he.shape, he.drawn⟩
  · rw [renB_get]
    refine ⟨i, ?_, he.pre i b hb⟩
    have hlt : i < nh := Nat.lt_of_lt_of_le (List.getElem?_eq_some_iff.1 hb).1 hl
    have : (rn.take nh)[i]? = some i := by rw [ht, tabl_get, if_pos hlt]; congr 1; omega
    rwa [List.getElem?_take, if_pos hlt] at this
  · obtain ⟨j, _, h⟩ := (renB_get i b).1 hb
    exact he.fresh j b h
variable {I0 : Nat → Prop} {β0 : Beta} {w0 : World}
theorem refSlots_spec {d : Nat} {rn : List Nat} {Γ : Slots} : ∀ {sl : Slots}, refSlots d rn Γ sl → ∀ s x, get sl s = some x → get Γ s = some (renC d rn x)
  | [], _, s, x, h => by simp [get] at h
  | (k, y) :: l, hr, s, x, h => by
    simp only [refSlots] at hr
    rw [get_cons] at h
    split at h
    · rename_i hks
      subst hks
      injection h with h; subst h
      exact hr.1
    · exact refSlots_spec hr.2 s x h
theorem Sim.ref (hl : β0.length ≤ nh) {Γ : Slots} {H : Heap} {S : ASt} (hr : Ref nh Γ H S) {a : Act} {w : World} (h : SimE I0 β0 w0 n 0 0 (get Γ) H a w) : SimE I0 β0 w0 n 0 0 (get S.sl) S.hp a w := by
  obtain ⟨I, β, hs⟩ := h
  obtain ⟨rn, hd, ht, hk, hrs⟩ := hr
  exact ⟨I, renB β rn, hs.h.ren hd hk, hs.defers, hs.size, fun s x hx => ren_back (renB_back hs.h) rfl (hs.slot s _ (refSlots_spec hrs s x hx)), hs.evo.ren hl ht, fun s h1 h2 => by omega⟩
theorem Ghost.ref {Γ : Slots} {H : Heap} {S : ASt} (hr : Ref nh Γ H S) : Ghost n nh Γ H S.sl S.hp := fun _ _ _ _ _ hl h => Sim.ref hl hr h
theorem SimE.fewer {lo cnt : Nat} {g : Nat → Option AV} {H : Heap} {a : Act} {w : World} (h : SimE I0 β0 w0 n lo cnt g H a w) : SimE I0 β0 w0 n 0 0 g H a w := by
  obtain ⟨I, β, hs⟩ := h
  exact ⟨I, β, hs.h, hs.defers, hs.size, hs.slot, hs.evo, fun s h1 h2 => by omega⟩
theorem SimE.drew {lo cnt : Nat} {g : Nat → Option AV} {H : Heap} {a : Act} {w : World} (h : SimE I0 β0 w0 n lo cnt g H a w) : SimE I0 β0 w0 n lo cnt g H a w.drew := by
  obtain ⟨I, β, hs⟩ := h
  exact ⟨I, β, hs.h.drew, hs.defers, hs.size, fun s x hx => (Evo.drew I β w).mono (hs.slot s x hx), hs.evo.trans (Evo.drew I β w), hs.free⟩
theorem nones_length {α : Type} : ∀ (m : Nat), (nones (α := α) m).length = m
  | 0 => rfl
  | m + 1 => by simp [nones, nones_length m]
theorem nones_get {α : Type} : ∀ (m i : Nat), (nones (α := α) m)[i]? = if i < m then some none else none
  | 0, i => by simp [nones]
  | m + 1, 0 => by simp [nones]
  | m + 1, i + 1 => by simp only [nones, List.getElem?_cons_succ, nones_get m i]; by_cases h : i < m <;> simp [h]
theorem SimE.room {g : Nat → Option AV} {H : Heap} {a : Act} {w : World} (m : Nat) (h : SimE I0 β0 w0 n 0 0 g H a w) : SimE I0 β0 w0 n H.length m g (H ++ nones m) a w := by
  obtain ⟨I, β, hs⟩ := h
  have pre : ∀ (i : Nat) b, β[i]? = some (some b) → (β ++ nones m)[i]? = some (some b) := fun i b hb => by
    rw [List.getElem?_append_left (List.getElem?_eq_some_iff.1 hb).1]; exact hb
  have back : ∀ (i : Nat) b, (β ++ nones m)[i]? = some (some b) → β[i]? = some (some b) := fun i b hb => by
    rw [List.getElem?_append] at hb
    split at hb
    · exact hb
    · rw [nones_get] at hb; split at hb <;> simp at hb
  have backH : ∀ (i : Nat) o, (H ++ nones m)[i]? = some (some o) → H[i]? = some (some o) := fun i b hb => by
    rw [List.getElem?_append] at hb
    split at hb
    · exact hb
    · rw [nones_get] at hb; split at hb <;> simp at hb
  have evo : Evo I β w I (β ++ nones m) w := ⟨rfl, rfl, rfl, Nat.le_refl _, pre, fun i b h => .inr ⟨i, b, back i b h, rfl⟩, fun _ _ _ => rfl, fun _ h => ⟨rfl, h⟩, fun _ _ h => .inl h, fun _ _ _ h => h, Nat.le_refl _⟩
  refine ⟨I, β ++ nones m, ⟨by simp [hs.h.len, nones_length], fun i o ho => ?_, fun i j oi oj b b' h1 h2 h3 h4 => hs.h.inj i j oi oj b b' (backH i oi h1) (backH j oj h2) (back i b h3) (back j b' h4), hs.h.imm, fun i b hb => hs.h.lt i b (back i b hb)⟩,
    hs.defers, hs.size, fun s x hx => evo.mono (hs.slot s x hx), hs.evo.trans evo, fun s h1 h2 => ?_⟩
  · obtain ⟨b, hb, hos⟩ := hs.h.obj i o (backH i o ho)
    exact ⟨b, pre i b hb, hos.mono (fun _ h => ⟨rfl, h⟩) pre (fun _ _ _ h => h) rfl (fun h => h)⟩
  · rw [List.getElem?_append_right (by rw [hs.h.len]; exact h1), nones_get, if_pos (by rw [hs.h.len]; omega)]
theorem vcOps_sound (hT : TabOk P T) {ops : Array Oper} {K : Slots → Heap → Prop} {Q : Exit → Act → World → Prop}
    (hK : ∀ Γ H a w, SimE I0 β0 w0 n 0 0 (get Γ) H a w → K Γ H → Q .normal a w) : ∀ (l : List Oper) (i lo cnt : Nat) (dc : Known) (Γ : Slots) (H : Heap) (a : Act) (w : World),
    (∀ j, l[j]? = ops[i + j]?) → allocs l ≤ cnt → KnOk dc (get Γ) → SimE I0 β0 w0 n lo cnt (get Γ) H a w → vcOps P T n ops.toList l lo K dc Γ H → wpOps P ops Q (List.range' i l.length) a w
  | [], i, lo, cnt, dc, Γ, H, a, w, hl, hc, hk, hs, h => by
    simp only [List.length_nil, List.range'_zero, wpOps]
    exact hK Γ H a w hs.fewer h
  | o :: l, i, lo, cnt, dc, Γ, H, a, w, hl, hc, hk, hs, h => by
    have hi : ops[i]? = some o := by have := hl 0; simpa using this.symm
    have hl' : ∀ j, l[j]? = ops[i + 1 + j]? := fun j => by have := hl (j + 1); simp only [List.getElem?_cons_succ] at this; rw [this]; congr 1; omega
    simp only [List.length_cons, List.range'_succ, wpOps, hi]
    obtain ⟨I, β, hs⟩ := hs
    have hstep : ∀ (lo' : Nat), (bif isAlloc o.op then lo + 1 else lo) = lo' → dstOk n o = true →
        vcGuard ops.toList Γ dc o.guard (fun dc' => knPut dc' o fun d2 => vcStep P T lo o.dst (simpOp dc' o.op) Γ H (vcOps P T n ops.toList l lo' K d2))
          (fun dc' => knSkip dc' o fun d2 => putK Γ o.dst (.pv (.val undef)) fun Γ' => vcOps P T n ops.toList l lo' K d2 Γ' H) →
        if Region.wanted o (yielded ops a.tmps) = true then o.wp P a w (wpOps P ops Q (List.range' (i + 1) l.length)) Q ∨ (o.asks P a w ∧ LetsOut Q)
          else wpOps P ops Q (List.range' (i + 1) l.length) (a.put o.dst undef) w := fun lo' hlo hd hg => by
      have hal : isAlloc o.op = true → 0 < cnt := fun e => by
        simp only [allocs, e, cond_true] at hc; omega
      have hcl : allocs l ≤ (bif isAlloc o.op then cnt - 1 else cnt) := by
        cases e : isAlloc o.op
        · simp only [allocs, e, cond_false] at hc; simpa using hc
        · simp only [allocs, e, cond_true] at hc; simp only [cond_true]; omega
      rcases vcGuard_sound rfl hk hs.slot hg with ⟨hw, dc', hk', h⟩ | ⟨hw, dc', hk', h⟩
      · rw [if_pos hw]
        obtain ⟨d2, h2, h3⟩ := knPut_spec hk' h
        refine .inl (vcStep_sound hT rfl hs hk' hd hal h2 fun r Γ' H' a' w' hr hget hK' hs' => ?_)
        rw [hlo] at hs'
        exact vcOps_sound hT hK l (i + 1) lo' _ d2 Γ' H' a' w' hl' hcl (by rw [hget]; exact h3 r hr) hs' hK'
      · rw [if_neg (by rw [hw]; exact Bool.false_ne_true)]
        obtain ⟨d2, h2, h3⟩ := knSkip_spec hk' h
        rw [putK_eq] at h2
        refine vcOps_sound hT hK l (i + 1) lo' _ d2 _ H _ w hl' hcl (by rw [get_put]; exact h3 _) ⟨I, β, ?_⟩ h2
        rw [get_put]
        refine hs.skip hd fun s h1 h2 => ?_
        cases e : isAlloc o.op
        · rw [e] at hlo h2; simp only [cond_false] at hlo h2; subst hlo; exact hs.free s h1 h2
        · rw [e] at hlo h2; simp only [cond_true] at hlo h2; subst hlo; have := hal e; exact hs.free s (by omega) (by omega)
    simp only [vcOps] at h
    split at h
    · rename_i hd ha; exact hstep (lo + 1) (by rw [ha]; rfl) hd h
    · rename_i hd ha; exact hstep lo (by rw [ha]; rfl) hd h
    · exact h.elim
def DrawsOk (P : Program) (T : Tab) (n : Nat) (I0 : Nat → Prop) (β0 : Beta) (w0 : World) : Prop :=
  ∀ (id : Nat) (ops : Array Oper) (K : Slots → Heap → Prop) (Q : Exit → Act → World → Prop) (lo : Nat) (Γ : Slots) (H : Heap) (a : Act) (w : World),
    (∀ Γ H a w, SimE I0 β0 w0 n 0 0 (get Γ) H a w → K Γ H → Q .normal a w) → SimE I0 β0 w0 n lo (allocs ops.toList) (get Γ) H a w →
    vcOpsD P T n ops.toList ops.toList lo (fun fs Γ' H' => drawOk ops fs.reverse = true ∧ K Γ' H') [] [] Γ H → (Code.region id ops true).wp P Q a w
theorem knOk_nil (g : Nat → Option AV) : KnOk [] g := fun s b h => by simp [kn] at h
theorem without_mem {j k : Nat} : ∀ {l : List Nat}, k ∈ without j l ↔ k ∈ l ∧ k ≠ j
  | [] => by simp [without]
  | x :: l => by
    simp only [without]
    cases hb : Nat.beq x j
    · have hne : x ≠ j := fun e => by subst e; simp at hb
      simp only [cond_false, List.mem_cons, without_mem (l := l)]
      constructor
      · rintro (rfl | h)
        · exact ⟨.inl rfl, hne⟩
        · exact ⟨.inr h.1, h.2⟩
      · rintro ⟨rfl | h, h2⟩
        · exact .inl rfl
        · exact .inr ⟨h, h2⟩
    · have he := Nat.eq_of_beq_eq_true hb
      simp only [cond_true, List.mem_cons, without_mem (l := l)]
      subst he
      constructor
      · rintro ⟨h1, h2⟩; exact ⟨.inr h1, h2⟩
      · rintro ⟨h1 | h1, h2⟩
        · exact absurd h1 h2
        · exact ⟨h1, h2⟩
theorem hasN_iff {j : Nat} : ∀ {l : List Nat}, hasN j l = true ↔ j ∈ l
  | [] => by simp [hasN]
  | x :: l => by
    simp only [hasN]
    cases hb : Nat.beq x j
    · have hne : ¬ j = x := fun e => by subst e; simp at hb
      simp [hasN_iff (l := l), hne]
    · have := Nat.eq_of_beq_eq_true hb
      simp [this]
def allocsIn (ops : Array Oper) : List Nat → Nat
  | [] => 0
  | j :: l => (match ops[j]? with
    | some o => bif isAlloc o.op then 1 else 0
    | none => 0) + allocsIn ops l
theorem allocsIn_without {ops : Array Oper} {j : Nat} : ∀ {l : List Nat}, j ∈ l → allocsIn ops (without j l) + (match ops[j]? with
    | some o => bif isAlloc o.op then 1 else 0
    | none => 0) ≤ allocsIn ops l
  | [], h => by simp at h
  | x :: l, h => by
    have le : ∀ l : List Nat, allocsIn ops (without j l) ≤ allocsIn ops l := fun l => by
      induction l with
      | nil => simp [without, allocsIn]
      | cons y l ih =>
        simp only [without]
        cases Nat.beq y j
        · simp only [cond_false, allocsIn]; omega
        · simp only [cond_true, allocsIn]; omega
    simp only [without]
    cases hb : Nat.beq x j
    · simp only [cond_false, allocsIn]
      have hne : ¬ j = x := fun e => by subst e; simp at hb
      have := allocsIn_without (ops := ops) (l := l) (by simpa [hne] using h)
      omega
    · have := Nat.eq_of_beq_eq_true hb
      subst this
      simp only [cond_true, allocsIn]
      have := le l
      omega
theorem eachReady_spec {ops : Array Oper} {rem : List Nat} {F : Nat → Prop} : ∀ {l : List Nat}, eachReady ops rem F l → ∀ j ∈ l, readyIn ops rem j = true → F j
  | [], _, j, hj, _ => by simp at hj
  | x :: l, h, j, hj, hr => by
    simp only [eachReady] at h
    rcases List.mem_cons.1 hj with rfl | hj
    · rw [hr] at h; exact h.1
    · split at h
      · exact eachReady_spec h.2 j hj hr
      · exact eachReady_spec h j hj hr
theorem vcAny_sound (hT : TabOk P T) {ops : Array Oper} {K : Slots → Heap → Prop} {Q : Exit → Act → World → Prop}
    (hK : ∀ Γ H a w, SimE I0 β0 w0 n 0 0 (get Γ) H a w → K Γ H → Q .normal a w) : ∀ (fuel : Nat) (rem : List Nat) (lo cnt : Nat) (Γ : Slots) (H : Heap) (a : Act) (w : World) (listed : Array Bool),
    listed.size = ops.size → (∀ k, k < ops.size → (listed.getD k false = true ↔ k ∉ rem)) → (∀ k ∈ rem, k < ops.size) → allocsIn ops rem ≤ cnt → SimE I0 β0 w0 n lo cnt (get Γ) H a w → vcAny P T n ops fuel rem lo K Γ H → wpAny P .any ops Q fuel listed a w := by
  intro fuel
  have none_ready : ∀ (listed : Array Bool), listed.size = ops.size → (∀ k, k < ops.size → (listed.getD k false = true ↔ k ∉ ([] : List Nat))) → Region.ready .any ops listed = [] := fun listed hsz hl => by
    apply List.eq_nil_iff_forall_not_mem.2
    intro j hj
    obtain ⟨h1, o, ho, _⟩ := mem_ready.1 hj
    have hjl := (Array.getElem?_eq_some_iff.1 ho).1
    have h2 := (hl j hjl).2 (by simp)
    simp [hsz, hjl] at h1 h2
    rw [h1] at h2; cases h2
  induction fuel with
  | zero =>
    intro rem lo cnt Γ H a w listed hsz hl hr hc hs h
    cases rem with
    | nil =>
      simp only [vcAny] at h
      exact ⟨none_ready listed hsz hl, hK Γ H a w hs.fewer h⟩
    | cons j rem => exact h.elim
  | succ fuel ih =>
    intro rem lo cnt Γ H a w listed hsz hl hr hc hs h
    have rdy : ∀ j, j ∈ Region.ready .any ops listed → j ∈ rem ∧ readyIn ops rem j = true := fun j hj => by
      obtain ⟨h1, o, ho, hpre⟩ := mem_ready.1 hj
      have hjl := (Array.getElem?_eq_some_iff.1 ho).1
      have hjr : j ∈ rem := by
        rcases Classical.em (j ∈ rem) with h | h
        · exact h
        · have := (hl j hjl).2 h
          simp [hsz, hjl] at h1 this
          rw [h1] at this; cases this
      refine ⟨hjr, ?_⟩
      simp only [readyIn, ho, List.all_eq_true]
      intro e he
      cases hb : Region.binds .any e
      · rfl
      · have h3 := hpre e (by simpa using he) hb
        have hlt : e.on < ops.size := by
          rcases Nat.lt_or_ge e.on ops.size with h | h
          · exact h
          · simp [Array.getElem?_eq_none (by omega : listed.size ≤ e.on)] at h3
        have hblt : Nat.blt e.on ops.size = true := by rw [Nat.blt_eq]; exact hlt
        cases hh : hasN e.on rem
        · rw [hblt]; rfl
        · have hm := hasN_iff.1 hh
          have := (hl e.on (hr _ hm)).1 h3
          exact absurd hm this
    cases rem with
    | nil =>
      simp only [vcAny] at h
      have h0 := none_ready listed hsz hl
      refine ⟨fun _ => hK Γ H a w hs.fewer h, fun j hj => ?_⟩
      rw [h0] at hj; cases hj
    | cons j0 rem0 =>
      simp only [vcAny] at h
      generalize hrem : j0 :: rem0 = rem at *
      split at h
      case h_2 => exact h.elim
      rename_i hany
      refine ⟨fun h0 => ?_, fun j hj => ?_⟩
      · exfalso
        obtain ⟨j, hjr, hjd⟩ := List.any_eq_true.1 hany
        have hjl := hr j hjr
        have : j ∈ Region.ready .any ops listed := by
          refine mem_ready.2 ⟨?_, ops[j], Array.getElem?_eq_getElem hjl, fun e he hb => ?_⟩
          · have : ¬ (listed.getD j false = true) := fun e => (hl j hjl).1 e hjr
            simp [hsz, hjl] at this ⊢; exact this
          · simp only [readyIn, Array.getElem?_eq_getElem hjl, List.all_eq_true] at hjd
            have := hjd e (by simpa using he)
            rw [hb] at this
            simp only [Bool.not_true, Bool.false_or, Bool.and_eq_true, Bool.not_eq_true', Nat.blt_eq] at this
            have hnm : e.on ∉ rem := fun hm => by rw [hasN_iff.2 hm] at this; cases this.2
            exact (hl _ this.1).2 hnm
        rw [h0] at this; cases this
      · obtain ⟨hjr, hjd⟩ := rdy j hj
        have hjl := hr j hjr
        have hstep := eachReady_spec h j hjr hjd
        have ho : ops[j]? = some ops[j] := Array.getElem?_eq_getElem hjl
        simp only [ho] at hstep
        obtain ⟨I, β, hs'⟩ := hs
        have hl' : ∀ k, k < ops.size → ((listed.setIfInBounds j true).getD k false = true ↔ k ∉ without j rem) := fun k hk => by
          rw [without_mem]
          by_cases hkj : k = j
          · subst hkj; simp [hsz, hk]
          · have : (listed.setIfInBounds j true).getD k false = listed.getD k false := by simp [Array.getElem?_setIfInBounds_ne (fun e => hkj e.symm)]
            rw [this, hl k hk]; simp [hkj]
        have hcw := allocsIn_without (ops := ops) hjr
        simp only [ho] at hcw
        have go : ∀ lo', (bif isAlloc ops[j].op then lo + 1 else lo) = lo' → dstOk n ops[j] = true → vcGuard ops.toList Γ [] ops[j].guard (fun _ => vcStep P T lo ops[j].dst (simpOp [] ops[j].op) Γ H (vcAny P T n ops fuel (without j rem) lo' K))
            (fun _ => putK Γ ops[j].dst (.pv (.val undef)) fun Γ' => vcAny P T n ops fuel (without j rem) lo' K Γ' H) → wpOp P ops Q j (wpAny P .any ops Q fuel (listed.setIfInBounds j true)) a w := fun lo' hlo hd hg => by
          have hal : isAlloc ops[j].op = true → 0 < cnt := fun e => by rw [e] at hcw; simp only [cond_true] at hcw; omega
          unfold wpOp
          simp only [ho]
          rcases vcGuard_sound rfl (knOk_nil _) hs'.slot hg with ⟨hw, dc', hk', h⟩ | ⟨hw, dc', hk', h⟩
          · rw [if_pos hw]
            refine .inl (vcStep_sound (dc := []) hT rfl hs' (knOk_nil _) hd hal h fun r Γ' H' a' w' hr' hget hK' hs2 => ?_)
            rw [hlo] at hs2
            exact ih (without j rem) lo' _ Γ' H' a' w' _ (by simpa using hsz) hl' (fun k hk => hr k (without_mem.1 hk).1) (by
              cases e : isAlloc ops[j].op <;> rw [e] at hcw <;> simp only [cond_true, cond_false] at hcw ⊢ <;> omega) hs2 hK'
          · rw [if_neg (by rw [hw]; exact Bool.false_ne_true)]
            rw [putK_eq] at h
            refine ih (without j rem) lo' (bif isAlloc ops[j].op then cnt - 1 else cnt) _ H _ w _ (by simpa using hsz) hl' (fun k hk => hr k (without_mem.1 hk).1) (by
              cases e : isAlloc ops[j].op <;> rw [e] at hcw <;> simp only [cond_true, cond_false] at hcw ⊢ <;> omega) ⟨I, β, ?_⟩ h
            rw [get_put]
            refine hs'.skip hd fun s h1 h2 => ?_
            cases e : isAlloc ops[j].op
            · rw [e] at hlo h2; simp only [cond_false] at hlo h2; subst hlo; exact hs'.free s h1 h2
            · rw [e] at hlo h2; simp only [cond_true] at hlo h2; subst hlo; have := hal e; exact hs'.free s (by omega) (by omega)
        split at hstep
        · rename_i hd ha; exact go (lo + 1) (by rw [ha]; rfl) hd hstep
        · rename_i hd ha; exact go lo (by rw [ha]; rfl) hd hstep
        · exact hstep.elim
theorem vcRegion_sound (hT : TabOk P T) (hD : DrawsOk P T n I0 β0 w0) {id : Nat} {ops : Array Oper} {draw : Bool} {K : Slots → Heap → Prop} {Q : Exit → Act → World → Prop}
    (hK : ∀ Γ H a w, SimE I0 β0 w0 n 0 0 (get Γ) H a w → K Γ H → Q .normal a w) {Γ : Slots} {H : Heap} {a : Act} {w : World} (hs : SimE I0 β0 w0 n 0 0 (get Γ) H a w) (h : vcRegion P T n ops draw K Γ H) :
    (Code.region id ops draw).wp P Q a w := by
  unfold vcRegion at h
  split at h
  · have base : ∀ (lo : Nat) (H' : Heap), SimE I0 β0 w0 n lo (allocs ops.toList) (get Γ) H' a w → vcOps P T n ops.toList ops.toList lo K [] Γ H' → (Code.region id ops false).wp P Q a w := fun lo H' hs' h' => by
      refine wp_region ?_
      rw [List.range_eq_range', ← Array.length_toList]
      exact vcOps_sound hT hK ops.toList 0 lo _ [] Γ H' a w (fun j => by simp) (Nat.le_refl _) (knOk_nil _) hs' h'
    split at h
    · rename_i h0
      exact base 0 H (by rw [h0]; exact hs) h
    · rename_i m h0
      rw [lenK_eq, forceH_eq] at h
      refine base H.length _ ?_ (by simpa using h)
      rw [h0]; exact hs.room (m + 1)
  · split at h
    · rename_i h0
      exact hD id ops K Q 0 Γ H a w hK (by rw [h0]; exact hs) h
    · rename_i m h0
      rw [lenK_eq, forceH_eq] at h
      refine hD id ops K Q H.length Γ _ a w hK ?_ (by simpa using h)
      rw [h0]; exact hs.room (m + 1)
theorem nat_min {p : Nat → Prop} (h : ∃ m, p m) : ∃ m, p m ∧ ∀ k, p k → m ≤ k := by
  obtain ⟨m, hm⟩ := h
  induction m using Nat.strongRecOn with
  | _ m ih =>
    by_cases hk : ∃ k, k < m ∧ p k
    · obtain ⟨k, hlt, hp⟩ := hk; exact ih k hlt hp
    · exact ⟨m, hm, fun k hp => by
        rcases Nat.lt_or_ge k m with h | h
        · exact absurd ⟨k, h, hp⟩ hk
        · exact h⟩
open Classical in
noncomputable def least (p : Nat → Prop) : Nat := if h : ∃ m, p m then Classical.choose (nat_min h) else 0
theorem least_is {p : Nat → Prop} (h : ∃ m, p m) : p (least p) := by
  unfold least; rw [dif_pos h]; exact (Classical.choose_spec (nat_min h)).1
theorem least_le {p : Nat → Prop} {k : Nat} (h : p k) : least p ≤ k := by
  unfold least; rw [dif_pos ⟨k, h⟩]; exact (Classical.choose_spec (nat_min ⟨k, h⟩)).2 k h
theorem allocsIn_range {ops : Array Oper} : ∀ (l : List Oper) (k : Nat), (∀ j, l[j]? = ops[k + j]?) → allocsIn ops (List.range' k l.length) = allocs l
  | [], k, _ => rfl
  | o :: l, k, h => by
    have h0 : ops[k]? = some o := by have := h 0; simpa using this.symm
    have ih := allocsIn_range (ops := ops) l (k + 1) (fun j => by have := h (j + 1); simp only [List.getElem?_cons_succ] at this; rw [this]; congr 1; omega)
    simp only [List.length_cons, List.range'_succ, allocsIn, h0, allocs, ih]
    cases isAlloc o.op <;> simp only [cond_true, cond_false] <;> omega
theorem vcRegionAny_sound (hT : TabOk P T) (hm : P.follows .mixedOrders = true) {id : Nat} {ops : Array Oper} {K : Slots → Heap → Prop} {Q : Exit → Act → World → Prop}
    (hK : ∀ Γ H a w, SimE I0 β0 w0 n 0 0 (get Γ) H a w → K Γ H → Q .normal a w) {Γ : Slots} {H : Heap} {a : Act} {w : World} (hs : SimE I0 β0 w0 n 0 0 (get Γ) H a w) (h : vcRegionAny P T n ops K Γ H) :
    (Code.region id ops true).wp P Q a w := by
  refine wp_region_any hm ?_
  have hs := hs.drew
  have key : ∀ (lo : Nat) (H' : Heap), SimE I0 β0 w0 n lo (allocs ops.toList) (get Γ) H' a w.drew → vcAny P T n ops ops.size (List.range ops.size) lo K Γ H' → wpAny P .any ops Q ops.size (Array.replicate ops.size false) a w.drew := fun lo H' hs' h' =>
    vcAny_sound hT hK ops.size (List.range ops.size) lo _ Γ H' a w.drew _ (by simp) (fun k hk => by simp [hk]) (fun k hk => by simpa using hk) (by
      have := allocsIn_range (ops := ops) ops.toList 0 (fun j => by simp)
      rw [List.range_eq_range', ← Array.length_toList, this]; exact Nat.le_refl _) hs' h'
  unfold vcRegionAny at h
  split at h
  · rename_i h0
    exact key 0 H (by rw [h0]; exact hs) h
  · rename_i m h0
    rw [lenK_eq, forceH_eq] at h
    refine key H.length _ ?_ (by simpa using h)
    rw [h0]; exact hs.room (m + 1)
theorem vcCode_sound (hT : TabOk P T) (hm : P.follows .mixedOrders = true) (hD : DrawsOk P T n I0 β0 w0) (hl : β0.length ≤ nh) : ∀ (c : Code) (Q : Exit → Slots → Heap → Prop) (Q' : Exit → Act → World → Prop) (Γ : Slots) (H : Heap) (a : Act) (w : World),
    (∀ e Γ H a w, SimE I0 β0 w0 n 0 0 (get Γ) H a w → Q e Γ H → Q' e a w) → SimE I0 β0 w0 n 0 0 (get Γ) H a w → vcCode P T n nh c Q Γ H → c.wp P Q' a w := by
  intro c
  induction c with
  | skip => intro Q Q' Γ H a w hQ hs h; exact wp_skip (hQ _ _ _ _ _ hs h)
  | label l => intro Q Q' Γ H a w hQ hs h; exact wp_label (hQ _ _ _ _ _ hs h)
  | region id ops draw =>
    intro Q Q' Γ H a w hQ hs h
    obtain ⟨Γ, H, hg, h⟩ := h
    replace hs := hg _ _ _ _ _ hl hs
    rcases h with h | ⟨rfl, h⟩ | ⟨k, Γ2, H2, hg2, h⟩
    · exact vcRegion_sound hT hD (fun Γ H a w => hQ .normal Γ H a w) hs h
    · exact vcRegionAny_sound hT hm (fun Γ H a w => hQ .normal Γ H a w) hs h
    · replace hs := hg2 _ _ _ _ _ hl hs
      cases draw
      · refine wp_region ?_
        rw [List.range_eq_range', ← Array.length_toList]
        exact vcOps_sound hT (fun Γ H a w => hQ .normal Γ H a w) ops.toList 0 k _ [] Γ2 H2 a w (fun j => by simp) (Nat.le_refl _) (knOk_nil _) hs h
      · rcases h with h | h
        · exact hD id ops (Q .normal) Q' k Γ2 H2 a w (fun Γ H a w => hQ .normal Γ H a w) hs h
        · refine wp_region_any hm ?_
          exact vcAny_sound hT (fun Γ H a w => hQ .normal Γ H a w) ops.size (List.range ops.size) k _ Γ2 H2 a w.drew _ (by simp) (fun k hk => by simp [hk]) (fun k hk => by simpa using hk) (by
            have := allocsIn_range (ops := ops) ops.toList 0 (fun j => by simp)
            rw [List.range_eq_range', ← Array.length_toList, this]; exact Nat.le_refl _) hs.drew h
  | seq x y ihx ihy =>
    intro Q Q' Γ H a w hQ hs h
    obtain ⟨Γ, H, hg, h⟩ := h
    replace hs := hg _ _ _ _ _ hl hs
    rcases h with h | ⟨R, h, h2⟩
    · refine wp_seq (ihx _ _ Γ H a w (fun e Γ H a w hs hq => ?_) hs h)
      cases e <;> simp only [thenQ] at hq <;> simp only [Exit.then]
      case normal => exact ihy Q Q' Γ H a w hQ hs hq
      all_goals exact hQ _ _ _ _ _ hs hq
    · refine wp_seq (ihx _ _ Γ H a w (fun e Γ H a w hs hq => ?_) hs h)
      cases e <;> simp only [thenQ] at hq <;> simp only [Exit.then]
      case normal =>
        obtain ⟨S, hS, hgS⟩ := hq
        exact ihy Q Q' S.sl S.hp a w hQ (hgS _ _ _ _ _ hl hs) (h2 S hS)
      all_goals exact hQ _ _ _ _ _ hs hq
  | cond c x y ihx ihy =>
    intro Q Q' Γ H a w hQ hs h
    obtain ⟨Γ, H, hg, h⟩ := h
    replace hs := hg _ _ _ _ _ hl hs
    simp only [ev_eq] at h
    split at h
    · rename_i b hb
      obtain ⟨I, β, hs'⟩ := hs
      have hv := val_inv (evF_sound hs'.h.imm.gl hs'.slot hb)
      exact wp_cond_split hv (fun e => ihx Q Q' Γ H a w hQ ⟨I, β, hs'⟩ (h.1 e)) (fun e => ihy Q Q' Γ H a w hQ ⟨I, β, hs'⟩ (h.2 e))
    · exact h.elim
  | block id c ih =>
    intro Q Q' Γ H a w hQ hs h
    obtain ⟨Γ, H, hg, h⟩ := h
    replace hs := hg _ _ _ _ _ hl hs
    refine wp_block (ih _ _ Γ H a w (fun e Γ H a w hs hq => ?_) hs h)
    cases e <;> simp only [inBlockQ] at hq <;> simp only [Exit.inBlock]
    case exit id' =>
      cases hb : Nat.beq id' id
      · rw [hb] at hq
        have : ¬ id' = id := fun e => by subst e; simp at hb
        rw [if_neg this]; exact hQ _ _ _ _ _ hs hq
      · rw [hb] at hq
        rw [if_pos (Nat.eq_of_beq_eq_true hb)]; exact hQ _ _ _ _ _ hs hq
    all_goals exact hQ _ _ _ _ _ hs hq
  | loop c ih =>
    intro Q Q' Γ H a w hQ hs h
    obtain ⟨Γ, H, hg, h⟩ := h
    replace hs := hg _ _ _ _ _ hl hs
    rcases h with h | ⟨m, h⟩
    case inr =>
      refine wp_loop_rounds m ?_
      clear hg
      induction m generalizing Γ H a w with
      | zero => exact h.elim
      | succ m ihm =>
        simp only [rounds] at h
        rw [rounds_succ]
        refine ih _ _ Γ H a w (fun e Γ H a w hs hq => ?_) hs h
        cases e <;> simp only [thenQ] at hq <;> simp only [Exit.then]
        case normal => exact ihm _ _ _ _ hs hq
        all_goals exact hQ _ _ _ _ _ hs hq
    obtain ⟨X, J, cond, μ, ⟨x0, hc0, hr0⟩, h⟩ := h
    let p : Act → World → Nat → Prop := fun a w m => ∃ x, cond x ∧ μ x = m ∧ SimE I0 β0 w0 n 0 0 (get (J x).sl) (J x).hp a w
    refine wp_loop (fun a w => ∃ m, p a w m) (fun a w => least (p a w)) ⟨_, x0, hc0, rfl, hr0 _ _ _ _ _ hl hs⟩ (fun a w hI => ?_)
    obtain ⟨x, hc, hm, hs'⟩ := least_is hI
    refine ih _ _ _ _ a w (fun e Γ H a' w' hs'' hq => ?_) hs' (h x hc)
    cases e <;> simp only [thenQ] at hq <;> simp only [Exit.then]
    case normal =>
      obtain ⟨x', hc', hlt, hr'⟩ := hq
      have hp : p a' w' (μ x') := ⟨x', hc', rfl, hr' _ _ _ _ _ hl hs''⟩
      exact ⟨⟨_, hp⟩, Nat.lt_of_le_of_lt (least_le hp) (by rw [← hm]; exact hlt)⟩
    all_goals exact hQ _ _ _ _ _ hs'' hq
  | scope c ih =>
    intro Q Q' Γ H a w hQ hs h
    obtain ⟨Γ, H, hg, h⟩ := h
    replace hs := hg _ _ _ _ _ hl hs
    refine wp_scope_straight (ih _ _ Γ H a w (fun e Γ H a w hs hq => ?_) hs h)
    cases e <;> simp only [noGotoQ] at hq <;> simp only [Exit.noGoto]
    all_goals exact hQ _ _ _ _ _ hs hq
  | exit id => intro Q Q' Γ H a w hQ hs h; exact wp_exit (hQ _ _ _ _ _ hs h)
  | ret =>
    intro Q Q' Γ H a w hQ hs h
    obtain ⟨Γ, H, hg, h⟩ := h
    exact wp_ret (hQ _ _ _ _ _ (hg _ _ _ _ _ hl hs) h)
  | _ => intros; rename_i h; exact absurd h (by simp [vcCode])
end
end Go.Cw
/-
  Cw, part Y: what a function hands back; a contract from the code.
-/
namespace Go.Cw
set_option linter.unusedVariables false
section
variable {P : Program} {T : Tab} {n nh : Nat}
theorem ble_same (m : Nat) : Nat.ble m m = true := by rw [Nat.ble_eq]; exact Nat.le_refl _
def resVar (tmps : Array Value) : ResultVar → Sem Value
  | .tmp t => pure (tmps.getD t undef)
  | .cell a t => do loadVar t (← asAddr (tmps.getD a undef))
theorem results_eq (fn : Func) (tmps : Array Value) : results fn tmps = (do
    let vs ← fn.results.mapM (resVar tmps)
    pure (if h : vs.size = 1 then vs[0] else .tuple vs)) := by
  unfold results
  congr 1
theorem resOf_sound (hT : TabOk P T) {I : Nat → Prop} {β : Beta} {w : World} {H : Heap} (hH : HSim I β H w) {Γ : Slots} {tmps : Array Value} (hs : ∀ s x, get Γ s = some x → ARel I β w x (tmps.getD s undef)) :
    ∀ (rs : List ResultVar) (vs : List AV), resOf T Γ H rs = some vs → ∃ us : List Value, (rs.mapM (resVar tmps)).run P w = .ok us w ∧ us.length = vs.length ∧ ∀ (j : Nat) c, vs[j]? = some c → ∃ u, us[j]? = some u ∧ ARel I β w c u
  | [], vs, h => by
    simp only [resOf, Option.some.injEq] at h; subst h
    exact ⟨[], by simp, rfl, fun j c hj => by simp at hj⟩
  | .tmp t :: l, vs, h => by
    simp only [resOf] at h
    split at h
    · rename_i v vs' hv hvs'
      injection h with h; subst h
      obtain ⟨us, hu, hlen, hr⟩ := resOf_sound hT hH hs l _ hvs'
      refine ⟨tmps.getD t undef :: us, by simp [List.mapM_cons, resVar, hu], by simp [hlen], fun j c hj => ?_⟩
      cases j with
      | zero => simp only [List.getElem?_cons_zero, Option.some.injEq] at hj; subst hj; exact ⟨_, rfl, hs _ _ hv⟩
      | succ j => simpa using hr j c (by simpa using hj)
    · cases h
  | .cell a t :: l, vs, h => by
    simp only [resOf] at h
    split at h
    · rename_i id z d vs' hv hd hvs'
      obtain ⟨size, bytes, agg, tk, zero⟩ := d
      obtain ⟨us, hu, hlen, hr⟩ := resOf_sound hT hH hs l _ hvs'
      obtain ⟨b, hb, hp⟩ := ptr_inv (hs _ _ hv)
      split at h
      · rename_i o ho
        obtain ⟨b', hb', hos⟩ := hH.obj id o ho
        have key : ∀ (x : AV), o.z = z → vcLoad T t (.ptr id o.z 0 0) H (fun r _ => r = x) → vs = x :: vs' → ∃ us : List Value, ((ResultVar.cell a t :: l).mapM (resVar tmps)).run P w = .ok us w ∧ us.length = vs.length ∧ ∀ (j : Nat) c, vs[j]? = some c → ∃ u, us[j]? = some u ∧ ARel I β w c u := fun x hz0 hx he => by
          subst he
          have hrel : ARel I β w (.ptr id o.z 0 0) (.pointer (some ⟨b.1, (0 + b.2) * o.z + 0, none⟩)) := .ptr hb
          obtain ⟨r, rd, rfl, u, hrun, hur⟩ := vcLoad_sound hT hH hrel hx
          rw [run_loadAt] at hrun
          have hp' : tmps.getD a undef = .pointer (some ⟨b.1, (0 + b.2) * o.z + 0, none⟩) := by rw [hp, hz0]
          refine ⟨u :: us, by simp only [List.mapM_cons, resVar, hp', asAddr, Sem.run_bind, Sem.run_pure, Result.andThen_ok, hrun, hu], by simp [hlen], fun j c hj => ?_⟩
          cases j with
          | zero => simp only [List.getElem?_cons_zero, Option.some.injEq] at hj; subst hj; exact ⟨_, rfl, hur⟩
          | succ j => simpa using hr j c (by simpa using hj)
        split at h
        · rename_i cs0 hzz hrows
          have hzz := Nat.eq_of_beq_eq_true hzz
          split at h
          · rename_i hagg hsz
            injection h with h
            simp only at hsz hagg; subst hagg
            have hsz := Nat.eq_of_beq_eq_true hsz
            refine key _ hzz ?_ h.symm
            subst hsz
            simp only [vcLoad, hd, ho, hrows, Nat.beq_refl, vcTake, List.drop_zero, ble_same]
            simp
          · rename_i hagg hsz
            injection h with h
            simp only at hsz hagg; subst hagg
            refine key _ hzz ?_ h.symm
            simp only [vcLoad, hd, ho, hrows, Nat.beq_refl, vcTake, List.drop_zero]
          · cases h
        · cases h
      · cases h
    · cases h
theorem argSlots_get : ∀ (l : List AV) (i s : Nat), get (argSlots i l) s = if i ≤ s then l[s - i]? else none
  | [], i, s => by simp [argSlots, get]
  | x :: l, i, s => by
    simp only [argSlots, get_cons, argSlots_get l (i + 1) s]
    by_cases h : i = s
    · subst h; simp
    · rw [if_neg h]
      by_cases h2 : i ≤ s
      · rw [if_pos h2, if_pos (by omega), show s - i = (s - (i + 1)) + 1 from by omega, List.getElem?_cons_succ]
      · rw [if_neg h2, if_neg (by omega)]
theorem retOk_sound {I0 I : Nat → Prop} {β0 β : Beta} {w0 w : World} {k : Nat} {r : AV} {H : Heap} {Post : AV → Heap → Prop} (hl : β0.length ≤ k) (hH : HSim I β H w) (he : Evo I0 β0 w0 I β w) {v : Value} (hr : ARel I β w r v) (h : retOk k r H Post) :
    ∃ r H' I' β', Post r H' ∧ HSim I' β' H' w ∧ ARel I' β' w r v ∧ Evo I0 β0 w0 I' β' w := by
  obtain ⟨rn, H', hd, ht, hk, h⟩ := h
  rcases h with ⟨r', rfl, hp⟩ | h
  · exact ⟨r', H', I, renB β rn, hp, hH.ren hd hk, ren_back (renB_back hH) rfl hr, he.ren hl ht⟩
  · split at h
    · rename_i r0 hc
      obtain ⟨hok, r', rfl, hdis, hp⟩ := h
      let J : Nat → Prop := fun b => I b ∨ ∃ id ∈ ids1 H r, ∃ c, β[id]? = some (some c) ∧ c.1 = b
      have hIJ : ∀ b, I b → J b := fun b h => .inl h
      have hJlt : ∀ b, J b → b < w.heap.size := fun b h => by
        rcases h with h | ⟨id, _, c, h, rfl⟩
        · exact hH.imm b h
        · exact hH.lt id c h
      have hd2 : ∀ x ∈ ids1 H r, x ∉ rn := fun x hx hxr => by
        simp only [disj, List.all_eq_true, Bool.not_eq_true'] at hdis
        have := hdis x hx x hxr
        simp at this
      have hS := hH.ren hd hk
      obtain ⟨hpl, hps⟩ := kept_spec hk
      have hE := he.ren hl ht
      refine ⟨r', H', J, renB β rn, hp, ⟨hS.len, fun i o ho => ?_, hS.inj, ⟨hJlt, hH.imm.gl.mono fun b h => ⟨rfl, hIJ b h⟩⟩, hS.lt⟩, conv_sound hH hIJ hc hok hr (fun id hid b hb => .inr ⟨id, hid, b, hb, rfl⟩),
        ⟨hE.os, hE.tape, hE.output, hE.size, hE.pre, hE.fresh, hE.keep, fun b hb => ⟨(hE.keepI b hb).1, hIJ b (hE.keepI b hb).2⟩, fun b hb hJ => ?_, hE.shape, hE.drawn⟩⟩
      · obtain ⟨b, hb, hos⟩ := hS.obj i o ho
        refine ⟨b, hb, hos.mono (fun b h => ⟨rfl, hIJ b h⟩) (fun _ _ h => h) (fun _ _ _ h => h) rfl (fun hJ => ?_)⟩
        rcases hJ with h | ⟨id, hid, c, h, hc⟩
        · exact h
        · exfalso
          obtain ⟨oid, hoid⟩ := ids1_live hid
          obtain ⟨i2, e2, e3⟩ := hps i o ho
          obtain ⟨i3, e4, e5⟩ := (renB_get i b).1 hb
          rw [e2] at e4; injection e4 with e4; subst e4
          have := hH.inj id i2 _ _ c b hoid e3 h e5 hc
          subst this
          exact hd2 id hid (List.mem_of_getElem? e2)
      · rcases hJ with h | ⟨id, hid, c, h, hc⟩
        · exact hE.old b hb h
        · rcases he.fresh id c h with h2 | ⟨j, c', h2, h3⟩
          · omega
          · exact .inr ⟨j, c', h2, h3.trans hc⟩
    · exact h.elim
theorem acall_of_code (hT : TabOk P T) (hm : P.follows .mixedOrders = true) {f : FuncId} {fn : Func} {c : Code} {args : List AV} {H : Heap} {Post : AV → Heap → Prop} (hD : ∀ I0 β0 w0, DrawsOk P T fn.ntmps I0 β0 w0)
    (hfn : P.funcs[f]? = some fn) (hname : (fn.name == "runtime.NumGoroutine") = false) (hbody : fn.body = some c) (hlen : args.length ≤ fn.ntmps)
    (h : vcCode P T fn.ntmps H.length c (retQ T H.length fn Post) (argSlots 0 args) H) : ACall P f args H Post := by
  refine ⟨⟨fn, hfn, hname, by rw [hbody]; rfl⟩, fun I β w vs hH hvs hrel => ?_⟩
  refine calls_of_wp hfn hbody ?_
  have hs0 : SimE I β w fn.ntmps 0 0 (get (argSlots 0 args)) H { tmps := vs ++ Array.replicate (fn.ntmps - vs.size) undef, defers := [] } w := by
    refine ⟨I, β, hH, rfl, ?_, fun s x hx => ?_, Evo.refl I β w, fun s h1 h2 => by omega⟩
    · simp; omega
    · rw [argSlots_get, if_pos (Nat.zero_le _)] at hx
      have hlt := (List.getElem?_eq_some_iff.1 hx).1
      have hr := hrel s x (by simpa using hx)
      have e : (vs ++ Array.replicate (fn.ntmps - vs.size) undef).getD s undef = vs.getD s undef := by
        have h2 : s < vs.size := by omega
        have h1 : s < (vs ++ Array.replicate (fn.ntmps - vs.size) undef).size := by simp; omega
        simp only [Array.getD, h1, h2, dif_pos]
        exact Array.getElem_append_left h2
      rw [e]; exact hr
  refine vcCode_sound hT hm (hD I β w) (by rw [hH.len]; exact Nat.le_refl _) c _ _ _ _ _ w (fun e Γ H' a' w' hs hq => ?_) hs0 h
  obtain ⟨I', β', hs⟩ := hs
  have fin : ∀ (hq : match resOf T Γ H' fn.results.toList with
      | some [r] => retOk H.length r H' Post
      | some rs => retOk H.length (.tup rs) H' Post
      | none => False), a'.defers = [] ∧ ∃ v, (results fn a'.tmps).run P w' = .ok v w' ∧ ∃ r H2 I' β' v', Ending.returned v = .returned v' ∧ Post r H2 ∧ HSim I' β' H2 w' ∧ ARel I' β' w' r v' ∧ Evo I β w I' β' w' := fun hq => by
    refine ⟨hs.defers, ?_⟩
    have hl : β.length ≤ H.length := by rw [hH.len]; exact Nat.le_refl _
    cases hres : resOf T Γ H' fn.results.toList with
    | none => rw [hres] at hq; exact hq.elim
    | some rs =>
      obtain ⟨us, hu, hul, hur⟩ := resOf_sound hT hs.h hs.slot _ _ hres
      have hrun : ∀ v, v = (if h : us.toArray.size = 1 then us.toArray[0] else .tuple us.toArray) → (results fn a'.tmps).run P w' = .ok v w' := fun v hv => by
        subst hv
        rw [results_eq, Array.mapM_eq_mapM_toList]
        simp [hu]
      have many : retOk H.length (.tup rs) H' Post → us.length ≠ 1 → ∃ v, (results fn a'.tmps).run P w' = .ok v w' ∧ ∃ r H2 I' β' v', Ending.returned v = .returned v' ∧ Post r H2 ∧ HSim I' β' H2 w' ∧ ARel I' β' w' r v' ∧ Evo I β w I' β' w' := fun hq hne => by
        have hrel : ARel I' β' w' (.tup rs) (.tuple us.toArray) := .tup (by simpa using hul) fun j c hj => by
          obtain ⟨u, h1, h2⟩ := hur j c hj
          simpa [h1] using h2
        obtain ⟨r, H2, I2, β2, h1, h2, h3, h4⟩ := retOk_sound hl hs.h hs.evo hrel hq
        exact ⟨_, hrun _ (by rw [dif_neg (by simpa using hne)]), r, H2, I2, β2, _, rfl, h1, h2, h3, h4⟩
      rw [hres] at hq
      rcases rs with _ | ⟨r0, _ | ⟨b, l⟩⟩
      · exact many hq (by simp at hul; simp [hul])
      · obtain ⟨u, h1, h2⟩ := hur 0 r0 rfl
        obtain ⟨r, H2, I2, β2, h3, h4, h5, h6⟩ := retOk_sound hl hs.h hs.evo h2 hq
        have hlen1 : us.length = 1 := by simpa using hul
        refine ⟨u, hrun u ?_, r, H2, I2, β2, _, rfl, h3, h4, h5, h6⟩
        rw [dif_pos (by simpa using hlen1)]
        have h7 := (List.getElem?_eq_some_iff.1 h1).2
        simpa using h7.symm
      · exact many hq (by simp at hul; omega)
  cases e with
  | normal => exact fin hq
  | ret => exact fin hq
  | _ => exact absurd hq (by simp [retQ])
end
end Go.Cw
