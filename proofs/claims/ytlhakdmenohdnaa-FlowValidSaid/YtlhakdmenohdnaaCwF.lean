/-
  Cw, part F: more operations that leave memory alone: reading, addresses, slices, literals of structs.
-/
import Derived.Test.YtlhakdmenohdnaaCwE
import Derived.Laws.Tables
namespace Go.Cw
set_option linter.unusedVariables false
section
variable {P : Program} {T : Tab} {I : Nat → Prop} {β : Beta} {w : World}

theorem add_add (a : Addr) (i j : Nat) : (a.add i).add j = a.add (i + j) := by
  unfold Addr.add
  by_cases hi : i = 0 <;> by_cases hj : j = 0 <;> simp [hi, hj, Nat.add_assoc]
theorem add_zero (a : Addr) : a.add 0 = a := by simp [Addr.add]
theorem add_at (b o n : Nat) : Addr.add ⟨b, o, none⟩ n = ⟨b, o + n, none⟩ := by
  unfold Addr.add; split
  · rename_i h; subst h; rfl
  · rfl

theorem one_rel {x : AV} {v : Value} (h1 : oneCell x = true) (h : ARel I β w x v) : v.oneCell' = true ∧ v.cells = #[v] := by
  cases h with
  | pv h => cases h with
    | val v =>
      simp only [oneCell] at h1
      cases v <;> simp [oneV] at h1 <;> exact ⟨rfl, rfl⟩
    | sl => exact ⟨rfl, rfl⟩
    | ia => exact ⟨rfl, rfl⟩
    | fn => exact ⟨rfl, rfl⟩
  | agg => simp [oneCell] at h1
  | ms => exact ⟨rfl, rfl⟩
  | ptr => exact ⟨rfl, rfl⟩
  | fn => exact ⟨rfl, rfl⟩
  | tup => simp [oneCell] at h1
  | dead => simp [oneCell] at h1

theorem allOne_get {l : List AV} (h : allOne l = true) {j : Nat} {c : AV} (hj : l[j]? = some c) : oneCell c = true := by
  induction l generalizing j with
  | nil => simp at hj
  | cons x l ih =>
    simp only [allOne, Bool.and_eq_true] at h
    cases j with
    | zero => simp at hj; subst hj; exact h.1
    | succ j => simp at hj; exact ih h.2 hj

/-- A value and its cells. -/
theorem cells_rel {x : AV} {v : Value} (h1 : allOne (cellsOf x) = true) (h : ARel I β w x v) :
    v.cells.size = (cellsOf x).length ∧ (∀ (j : Nat) c, (cellsOf x)[j]? = some c → ARel I β w c (v.cells.getD j undef)) ∧ ∀ u ∈ v.cells.toList, u.oneCell' = true := by
  cases x with
  | agg cs =>
    cases h with
    | agg hl h =>
      refine ⟨hl, h, fun u hu => ?_⟩
      simp only [Value.cells] at hu
      obtain ⟨j, hj, rfl⟩ := List.getElem_of_mem hu
      simp only [Array.length_toList] at hj
      simp only [cellsOf] at h1
      have hj' : j < cs.length := by omega
      have := (one_rel (allOne_get h1 (List.getElem?_eq_getElem hj')) (h j _ (List.getElem?_eq_getElem hj'))).1
      simpa [hj] using this
  | _ =>
    simp only [cellsOf, allOne, Bool.and_true] at h1
    obtain ⟨ho, hc⟩ := one_rel h1 h
    rw [hc]
    refine ⟨rfl, fun j c hj => ?_, fun u hu => ?_⟩
    · cases j with
      | zero => simp [cellsOf] at hj; subst hj; exact h
      | succ j => simp [cellsOf] at hj
    · simp at hu; subst hu; exact ho

theorem run_isAgg {t : TypeId} {u : TypeDesc} (hu : P.underlying t = some u) : (isAgg t).run P w = .ok (isAggD u) w := by
  unfold isAgg
  cases u <;> simp [run_underlying hu, isAggD]

/-- Cells at an address that hold values of abstract cells. -/
def CellsAt (I : Nat → Prop) (β : Beta) (w : World) (a : Addr) (cs : List AV) : Prop := ∀ (j : Nat) c, cs[j]? = some c → ∃ v, w.cell? (a.add j) = some v ∧ v.oneCell' = true ∧ ARel I β w c v

theorem vcTake_sound {t : TypeId} {i : TypeInfo} {u : TypeDesc} (hi : P.info? t = some i) (hu : P.underlying t = some u) {agg : Bool}
    (hagg : agg = isAggD u) {a : Addr} {cs : List AV} {K : AV → Prop} (hc : CellsAt I β w a cs) (h : vcTake i.size agg cs K) :
    ∃ r, K r ∧ Yields P I β w (loadVar t a) r := by
  unfold vcTake at h
  have hs : (sizeOf t).run P w = .ok i.size w := by simp [sizeOf, typeInfo, hi]
  split at h
  · split at h
    · rename_i hb
      have hle : i.size ≤ cs.length := Nat.le_of_ble_eq_true hb
      have hex : ∀ j, ∃ v, j < i.size → w.cell? (a.add j) = some v ∧ ∀ c, cs[j]? = some c → ARel I β w c v := fun j => by
        by_cases hj : j < i.size
        · obtain ⟨v, h1, _, h2⟩ := hc j _ (List.getElem?_eq_getElem (show j < cs.length by omega))
          exact ⟨v, fun _ => ⟨h1, fun c hc => by rw [List.getElem?_eq_getElem (show j < cs.length by omega)] at hc; injection hc with hc; subst hc; exact h2⟩⟩
        · exact ⟨undef, fun h => absurd h hj⟩
      obtain ⟨f, hf⟩ := Classical.axiomOfChoice hex
      refine ⟨_, h, .agg ((List.range i.size).map f).toArray, ?_, .agg (by simp; omega) (fun j c hj => ?_)⟩
      · unfold loadVar
        simp only [Sem.run_bind, run_isAgg hu, ← hagg, Result.andThen_ok, if_true, hs, run_loadCells w a i.size f (fun j hj => (hf j hj).1), Sem.run_pure]
      · have hlt : j < i.size := by
          have := (List.getElem?_eq_some_iff.1 hj).1
          simp at this; omega
        rw [List.getElem?_take_of_lt hlt] at hj
        have := (hf j hlt).2 c hj
        simpa [hlt] using this
    · exact h.elim
  · split at h
    · rename_i c l
      obtain ⟨v, h1, _, h2⟩ := hc 0 c rfl
      rw [add_zero] at h1
      refine ⟨_, h, v, ?_, h2⟩
      unfold loadVar
      simp only [Sem.run_bind, run_isAgg hu, ← hagg, Result.andThen_ok, Bool.false_eq_true, if_false, run_load, h1]
    · exact h.elim

theorem ia_inv {cs : List PV} {v : Value} (h : ARel I β w (.pv (.ia cs)) v) : ∃ a, v = .pointer (some a) ∧ I a.block ∧ CellsAt I β w a (pvs cs) ∧
    ∀ n, n ≤ cs.length → ARel I β w (.pv (.ia (cs.drop n))) (.pointer (some (a.add n))) := by
  cases h with
  | pv h => cases h with
    | ia u h0 h1 h2 =>
      rename_i a
      refine ⟨a, rfl, h0, fun j c hj => ?_, fun n hn => .pv (.ia (fun j => u (n + j)) (by rw [add_block]; exact h0) (fun j hj => ?_) (fun j p hp => ?_))⟩
      · obtain ⟨p, hp, rfl⟩ := pvs_get.1 hj
        have hlt := (List.getElem?_eq_some_iff.1 hp).1
        exact ⟨_, (h1 j hlt).1, (h1 j hlt).2, .pv (h2 j p hp)⟩
      · rw [add_add]
        simp only [List.length_drop] at hj
        exact h1 (n + j) (by omega)
      · rw [List.getElem?_drop] at hp
        exact h2 _ _ hp

theorem ptr_inv {id z row col : Nat} {v : Value} (h : ARel I β w (.ptr id z row col) v) : ∃ b, β[id]? = some (some b) ∧ v = .pointer (some ⟨b.1, (row + b.2) * z + col, none⟩) := by
  cases h with
  | ptr hb => exact ⟨_, hb, rfl⟩

theorem ms_inv {id z off len : Nat} {v : Value} (h : ARel I β w (.ms id z off len) v) : ∃ b cap o, v = .slice (some ⟨b.1, o, none⟩) len cap ∧ β[id]? = some (some b) ∧ len ≤ cap ∧ cap ≤ maxLen ∧
    (o = (off + b.2) * z ∨ (cap = 0 ∧ 0 < off + b.2)) ∧ ∃ t, w.shape? b.1 = some (t, (off + b.2 + cap) * z) := by
  cases h with
  | ms hb hc hm ho hs => exact ⟨_, _, _, rfl, hb, hc, hm, ho, hs⟩

/-- The cells of an object. -/
theorem obj_cells {H : Heap} (hH : HSim I β H w) {id : Nat} {b : Nat × Nat} {o : AObj} (ho : H[id]? = some (some o)) (hb : β[id]? = some (some b)) (row col : Nat) (cs : List AV)
    (hcs : ∀ (j : Nat) c, cs[j]? = some c → rowCell o.rows row (col + j) = some c) : CellsAt I β w ⟨b.1, (row + b.2) * o.z + col, none⟩ cs := by
  obtain ⟨b', hb', h1, h2, c, h3, h4⟩ := hH.obj id o ho
  rw [hb] at hb'
  injection hb' with hb'; injection hb' with hb'; subst hb'
  intro j x hx
  obtain ⟨v, hv, ho1, hr⟩ := h4 row (col + j) x (hcs j x hx)
  refine ⟨v, ?_, ho1, hr⟩
  rw [add_at, cell_of_row w b.1 _ c o.ty (0, 0) h3, Nat.add_assoc]
  exact hv

theorem run_loadAt (t : TypeId) (a : Addr) : (Instr.loadAt t (.pointer (some a))).run P w = (loadVar t a).run P w := by
  simp [Instr.loadAt, Instr.sureAddr]

theorem vcLoad_sound (hT : TabOk P T) {t : TypeId} {x : AV} {v : Value} {H : Heap} (hH : HSim I β H w) {K : AV → List Nat → Prop} (hx : ARel I β w x v) (h : vcLoad T t x H K) :
    ∃ r rd, K r rd ∧ Yields P I β w (Instr.loadAt t v) r := by
  unfold vcLoad at h
  split at h
  · exact h.elim
  · rename_i size bytes agg tk zero hl
    obtain ⟨i, u, zv, hi, hu, _, _, hsz, _, hagg, _, _⟩ := look_spec hT hl
    subst hsz
    split at h
    · obtain ⟨a, rfl, _, hc, _⟩ := ia_inv hx
      obtain ⟨r, hk, hy⟩ := vcTake_sound hi hu hagg hc h
      exact ⟨r, _, hk, by simpa only [Yields, run_loadAt] using hy⟩
    · rename_i id z row col
      obtain ⟨b, hb, rfl⟩ := ptr_inv hx
      split at h
      · rename_i o ho
        split at h
        · rename_i cs hz hr
          have hz := Nat.eq_of_beq_eq_true hz; subst hz
          split at h
          · obtain ⟨r, hk, hy⟩ := vcTake_sound hi hu hagg (obj_cells hH ho hb 0 _ _ (fun j c hj => by rw [hr]; simp only [rowCell, if_true]; rw [List.getElem?_drop] at hj; exact hj)) h
            exact ⟨r, _, hk, by simpa only [Yields, run_loadAt] using hy⟩
          · exact h.elim
        · rename_i xs hz hr
          have hz := Nat.eq_of_beq_eq_true hz; subst hz
          obtain ⟨rw_, hrow, h⟩ := h
          obtain ⟨r, hk, hy⟩ := vcTake_sound hi hu hagg (obj_cells hH ho hb row col _ (fun j c hj => by
            rw [hr]; simp only [rowCell, hrow, Option.bind_some]
            obtain ⟨p, hp, rfl⟩ := pvs_get.1 hj
            rw [List.getElem?_drop] at hp
            rw [hp]; rfl)) h
          exact ⟨r, _, hk, by simpa only [Yields, run_loadAt] using hy⟩
        · rename_i xs hz hr
          have hz := Nat.eq_of_beq_eq_true hz; subst hz
          obtain ⟨rw_, hrow, h⟩ := h
          obtain ⟨r, hk, hy⟩ := vcTake_sound hi hu hagg (obj_cells hH ho hb row col _ (fun j c hj => by
            rw [hr]; simp only [rowCell, hrow, Option.bind_some]
            rw [List.getElem?_drop] at hj
            exact hj)) h
          exact ⟨r, _, hk, by simpa only [Yields, run_loadAt] using hy⟩
        · exact h.elim
      · exact h.elim
    · exact h.elim

theorem vcFieldAddr_sound (hT : TabOk P T) {s : TypeId} {x : AV} {v : Value} {f : Nat} {K : AV → Prop} (hx : ARel I β w x v) (h : vcFieldAddr T s x f K) :
    ∃ r, K r ∧ Yields P I β w (Instr.fieldAt s v f) r := by
  unfold vcFieldAddr at h
  split at h
  · rename_i hl
    obtain ⟨i, u, z, hi, hu, _, _, hsz, _, hagg, htk, _⟩ := look_spec hT hl
    split at h
    · obtain ⟨Fs, rfl, rfl⟩ := tkOf_struct htk
      split at h
      · rename_i off ft hf
        simp only [List.getElem?_map, Option.map_eq_some_iff, Prod.mk.injEq] at hf
        obtain ⟨fd, hfd, rfl, rfl⟩ := hf
        have hfd' : Fs[f]? = some fd := by simpa using hfd
        split at h
        · rename_i hlf
          obtain ⟨i2, u2, z2, hi2, _, _, _, hs2, _, _, _, _⟩ := look_spec hT hlf
          split at h
          · rename_i hpos
            have hne : i2.size ≠ 0 := by
              have := hpos
              simp [Nat.blt_eq] at this
              omega
            have hrun : ∀ a : Addr, (Instr.fieldAt s (.pointer (some a)) f).run P w = .ok (.pointer (some (a.add fd.offset))) w := fun a => by
              simp [Instr.fieldAt, run_underlying hu, hfd', Instr.sureAddr, fieldPlace, sizeOf, typeInfo, hi2, hne]
            split at h
            · split at h
              · rename_i hle
                obtain ⟨a, rfl, _, _, hd⟩ := ia_inv hx
                exact ⟨_, h, _, hrun a, hd _ (Nat.le_of_ble_eq_true hle)⟩
              · exact h.elim
            · obtain ⟨b, hb, rfl⟩ := ptr_inv hx
              refine ⟨_, h, _, hrun _, ?_⟩
              rw [add_at, Nat.add_assoc]
              exact .ptr hb
            · exact h.elim
          · exact h.elim
        · exact h.elim
      · exact h.elim
    · exact h.elim
  · exact h.elim

theorem vcIndexAddr_sound (hT : TabOk P T) {t : TypeId} {x iv : AV} {v vi : Value} {K : AV → Prop} (hx : ARel I β w x v) (hi : ARel I β w iv vi) (h : vcIndexAddr T t x iv K) :
    ∃ r, K r ∧ Yields P I β w (Instr.indexAt t v vi) r := by
  unfold vcIndexAddr at h
  simp only [eqv_eq] at h
  split at h
  · rename_i hl
    obtain ⟨i, u, zv, hinf, hu, _, _, hsz, _, hagg, htk, _⟩ := look_spec hT hl
    obtain rfl := int_inv hi
    split at h
    · obtain rfl := tkOf_slice htk
      split at h
      · rename_i hle
        obtain ⟨ie, ue, ze, hie, _, _, _, hse, _, _, _, _⟩ := look_spec hT hle
        split at h
        · rename_i hb
          have hb := Nat.eq_of_beq_eq_true hb
          obtain ⟨k, r, rfl, hr, h⟩ := h
          obtain ⟨ad, cap, rfl, hcap, u, h1, h2⟩ := sl_inv hx
          obtain ⟨hlr, a, rfl, hI, hc⟩ := h1 k r hr
          have hk := (List.getElem?_eq_some_iff.1 hr).1
          refine ⟨_, h, .pointer (some (a.add (k * ie.size))), ?_, .pv (.ia (u k) (by rw [add_block]; exact hI) (fun j hj => ?_) (fun j p hp => h2 k r j p hr hp))⟩
          · simp [Instr.indexAt, asIntOf, run_underlying hu, sizeOf, typeInfo, hie, hk]
          · rw [add_add, hse, hb]
            exact hc j (by omega)
        · exact h.elim
      · exact h.elim
    · rename_i id z off len
      obtain rfl := tkOf_slice htk
      split at h
      · rename_i hle
        obtain ⟨ie, ue, ze, hie, _, _, _, hse, _, _, _, _⟩ := look_spec hT hle
        split at h
        · rename_i hb
          have hb := Nat.eq_of_beq_eq_true hb
          obtain ⟨k, rfl, hk, h⟩ := h
          obtain ⟨b, cap, o, rfl, hbl, hcap, _, ho, _⟩ := ms_inv hx
          have ho : o = _ := ho.resolve_right (fun e => by omega)
          subst ho
          refine ⟨_, h, .pointer (some ⟨b.1, (off + b.2) * z + k * ie.size, none⟩), ?_, ?_⟩
          · rw [← add_at]
            simp [Instr.indexAt, asIntOf, run_underlying hu, sizeOf, typeInfo, hie, hk]
          · have e := ARel.ptr (I := I) (w := w) (z := z) (row := off + k) (col := 0) hbl
            rw [Nat.add_zero, show off + k + b.2 = off + b.2 + k from by omega, Nat.add_mul] at e
            rw [hse, hb]
            exact e
        · exact h.elim
      · exact h.elim
    · exact h.elim
  · exact h.elim

theorem vcField_sound (hT : TabOk P T) {s : TypeId} {x : AV} {v : Value} {f : Nat} {K : AV → Prop} (hx : ARel I β w x v) (h : vcField T s x f K) :
    ∃ r, K r ∧ Yields P I β w (Instr.field s v f) r := by
  unfold vcField at h
  split at h
  · rename_i cs hl
    obtain ⟨i, u, z, hi, hu, _, _, hsz, _, hagg, htk, _⟩ := look_spec hT hl
    cases hx with
    | agg hlen hcs =>
      rename_i vs
      split at h
      · obtain ⟨Fs, rfl, rfl⟩ := tkOf_struct htk
        split at h
        · rename_i off ft hf
          simp only [List.getElem?_map, Option.map_eq_some_iff, Prod.mk.injEq] at hf
          obtain ⟨fd, hfd, rfl, rfl⟩ := hf
          have hfd' : Fs[f]? = some fd := by simpa using hfd
          split at h
          · rename_i hlf
            obtain ⟨i2, u2, z2, hi2, hu2, _, _, hs2, _, hag2, _, _⟩ := look_spec hT hlf
            subst hs2
            have hpart : (Instr.field s (.agg vs) f).run P w = (part fd.type vs fd.offset).run P w := by
              simp [Instr.field, run_underlying hu, hfd', asAgg]
            unfold vcTake at h
            split at h
            · split at h
              · rename_i hb
                have hle := Nat.le_of_ble_eq_true hb
                simp only [List.length_drop] at hle
                refine ⟨_, h, .agg (vs.extract fd.offset (fd.offset + i2.size)), ?_, .agg ?_ (fun j c hj => ?_)⟩
                · rw [hpart]
                  unfold part
                  simp [run_isAgg hu2, ← hag2, sizeOf, typeInfo, hi2]
                · simp; omega
                · have hlt : j < i2.size := by
                    have := (List.getElem?_eq_some_iff.1 hj).1
                    simp at this; omega
                  rw [List.getElem?_take_of_lt hlt, List.getElem?_drop] at hj
                  have hh := hcs _ _ hj
                  have hj2 := (List.getElem?_eq_some_iff.1 hj).1
                  have e : (vs.extract fd.offset (fd.offset + i2.size)).getD j undef = vs.getD (fd.offset + j) undef := by
                    have h1 : fd.offset + j < vs.size := by omega
                    have h2 : j < min (fd.offset + i2.size) vs.size - fd.offset := by omega
                    simp [Array.getElem?_extract, h1, h2]
                  rw [e]; exact hh
              · exact h.elim
            · split at h
              · rename_i c l hd
                have hj : cs[fd.offset]? = some c := by
                  have := congrArg (·[0]?) hd
                  simpa [List.getElem?_drop] using this
                have hlt := (List.getElem?_eq_some_iff.1 hj).1
                have hv : fd.offset < vs.size := by omega
                refine ⟨_, h, vs.getD fd.offset undef, ?_, hcs _ _ hj⟩
                rw [hpart]
                unfold part
                simp [run_isAgg hu2, ← hag2, hv]
              · exact h.elim
          · exact h.elim
        · exact h.elim
      · exact h.elim
  · exact h.elim

theorem vcLen_sound (hT : TabOk P T) {t ty : TypeId} {x : AV} {v : Value} {K : AV → Prop} (hx : ARel I β w x v) (h : vcLen T t x K) :
    ∃ r, K r ∧ Yields P I β w (Builtin.len_ #[t] ty #[v]) r := by
  unfold vcLen at h
  simp only [eqv_eq] at h
  split at h
  · rename_i hl
    obtain ⟨i, u, z, hi, hu, _, _, hsz, _, hagg, htk, _⟩ := look_spec hT hl
    split at h
    · obtain rfl := val_inv hx; obtain rfl := tkOf_slice htk
      exact ⟨_, h, _, by simp [Builtin.len_, run_underlying hu, goInt], rel_int _ _⟩
    · obtain rfl := val_inv hx; obtain rfl := tkOf_str htk
      exact ⟨_, h, _, by simp [Builtin.len_, run_underlying hu, goInt], rel_int _ _⟩
    · obtain ⟨ad, cap, rfl, _⟩ := sl_inv hx; obtain rfl := tkOf_slice htk
      exact ⟨_, h, _, by simp [Builtin.len_, run_underlying hu, goInt], rel_int _ _⟩
    · obtain ⟨b, cap, o, rfl, _⟩ := ms_inv hx; obtain rfl := tkOf_slice htk
      exact ⟨_, h, _, by simp [Builtin.len_, run_underlying hu, goInt], rel_int _ _⟩
    · exact h.elim
  · exact h.elim

theorem vcMinMax_sound {isMax : Bool} {xs : List (Option AV)} {vs : List Value} {K : AV → Prop} (ts : Array TypeId) (ty : TypeId)
    (hx : ∀ (j : Nat) x, xs[j]? = some (some x) → ∃ v, vs[j]? = some v ∧ ARel I β w x v) (hl : vs.length = xs.length) (h : vcMinMax isMax xs K) :
    ∃ r, K r ∧ Yields P I β w (bif isMax then Builtin.max_ ts ty vs.toArray else Builtin.min_ ts ty vs.toArray) r := by
  unfold vcMinMax at h
  split at h
  · rename_i k a k' b
    obtain ⟨v0, h0, r0⟩ := hx 0 _ rfl
    obtain ⟨v1, h1, r1⟩ := hx 1 _ rfl
    obtain rfl := int_inv r0; obtain rfl := int_inv r1
    have hvs : vs = [.int k a, .int k' b] := by
      match vs, hl with
      | [x, y], _ => simp at h0 h1; rw [h0, h1]
    subst hvs
    split at h
    · refine ⟨_, h, _, ?_, rel_int _ _⟩
      cases isMax
      · simp [Builtin.min_, Builtin.min2, List.foldlM]
      · simp [Builtin.max_, Builtin.max2, List.foldlM]
    · exact h.elim
  · exact h.elim

end
end Go.Cw
