/-
  Cw, part G: cutting a slice; a literal of a struct.
-/
import Derived.Test.YtlhakdmenohdnaaCwF
namespace Go.Cw
set_option linter.unusedVariables false
section
variable {P : Program} {T : Tab} {I : Nat → Prop} {β : Beta} {w : World}

/-- An operand that may be left out. -/
def ORel (I : Nat → Prop) (β : Beta) (w : World) : Option AV → Option Value → Prop
  | none, none => True
  | some x, some v => ARel I β w x v
  | _, _ => False

theorem run_sliceBound (k : IntKind) (n y : Nat) (c : BoundsCode) (h : n ≤ y) : (Instr.sliceBound (.int k n) y c).run P w = .ok n w := by
  have h2 : (0 : Int) ≤ (n : Int) ∧ (n : Int) ≤ (y : Int) := by omega
  simp [Instr.sliceBound, asIntOf, h2, h]

theorem lo_form {lo : Option AV} {vlo : Option Value} {l : Nat} (hlo : ORel I β w lo vlo) (h1 : loIs lo l) : (vlo = none ∧ l = 0) ∨ ∃ k, vlo = some (.int k (l : Int)) := by
  cases lo with
  | none => cases vlo with
    | none => exact .inl ⟨rfl, h1⟩
    | some v => exact hlo.elim
  | some x => cases vlo with
    | none => exact hlo.elim
    | some v =>
      unfold loIs at h1
      split at h1
      · rename_i heq; cases heq
      · rename_i k n heq
        injection heq with heq; subst heq; subst h1
        have hv : v = _ := int_inv hlo
        subst hv
        exact .inr ⟨_, rfl⟩
      · exact h1.elim

theorem hi_form {lo : Option AV} {vlo : Option Value} {len l : Nat} (hlo : ORel I β w lo vlo) (h1 : hiIs lo len l) : (vlo = none ∧ l = len) ∨ ∃ k, vlo = some (.int k (l : Int)) := by
  cases lo with
  | none => cases vlo with
    | none => exact .inl ⟨rfl, h1⟩
    | some v => exact hlo.elim
  | some x => cases vlo with
    | none => exact hlo.elim
    | some v =>
      unfold hiIs at h1
      split at h1
      · rename_i heq; cases heq
      · rename_i k n heq
        injection heq with heq; subst heq; subst h1
        have hv : v = _ := int_inv hlo
        subst hv
        exact .inr ⟨_, rfl⟩
      · exact h1.elim

theorem run_sliceBounds (s : Bool) (len cap : Nat) {lo hi : Option AV} {vlo vhi : Option Value} {l h : Nat} (hlo : ORel I β w lo vlo) (hhi : ORel I β w hi vhi)
    (h1 : loIs lo l) (h2 : hiIs hi len h) (h3 : l ≤ h) (h4 : h ≤ cap) : (Instr.sliceBounds s len cap vlo vhi none).run P w = .ok (l, h, cap) w := by
  rcases lo_form hlo h1 with ⟨rfl, rfl⟩ | ⟨k, rfl⟩ <;> rcases hi_form hhi h2 with ⟨rfl, rfl⟩ | ⟨k', rfl⟩ <;>
    simp only [Instr.sliceBounds, Sem.run_bind, Sem.run_pure, Result.andThen_ok, run_sliceBound _ _ _ _ h4, run_sliceBound _ _ _ _ h3]

theorem vcSlice_sound (hT : TabOk P T) {t : TypeId} {x : AV} {v : Value} {lo hi : Option AV} {vlo vhi : Option Value} {K : AV → Prop} (hx : ARel I β w x v) (hlo : ORel I β w lo vlo) (hhi : ORel I β w hi vhi)
    (h : vcSlice T t x lo hi K) : ∃ r, K r ∧ Yields P I β w (Instr.sliceAt t v vlo vhi none) r := by
  unfold vcSlice at h
  simp only [eqv_eq] at h
  split at h
  · rename_i hl
    obtain ⟨i, u, zv, hi', hu, _, _, hsz, _, hagg, htk, _⟩ := look_spec hT hl
    split at h
    · rename_i e z xs
      obtain rfl := tkOf_slice htk
      split at h
      · rename_i hle
        obtain ⟨ie, ue, ze, hie, _, _, _, hse, _, _, _, _⟩ := look_spec hT hle
        split at h
        · rename_i hb
          have hb := Nat.eq_of_beq_eq_true hb
          obtain ⟨l, hh, hl1, hh1, h3, h4, h⟩ := h
          obtain ⟨ad, cap, rfl, hcap, u, h1, h2⟩ := sl_inv hx
          have hbd := run_sliceBounds (P := P) true xs.length cap hlo hhi hl1 hh1 h3 (by omega)
          have hlen : ((xs.take hh).drop l).length = hh - l := by simp; omega
          refine ⟨_, h, .slice (if cap = l then ad else ad.map (·.add (l * ie.size))) (hh - l) (cap - l), ?_, ?_⟩
          · simp [Instr.sliceAt, Instr.slice, run_underlying hu, hbd, sizeOf, typeInfo, hie]
          · rw [← hlen]
            refine .pv (.sl (fun i j => u (l + i) j) (by omega) (fun i r hr => ?_) (fun i r j p hr hp => ?_))
            · have hr' : xs[l + i]? = some r := by
                rw [List.getElem?_drop] at hr
                have := (List.getElem?_eq_some_iff.1 hr).1
                rw [List.getElem?_take_of_lt (by simp only [List.length_take] at this; omega)] at hr
                exact hr
              obtain ⟨e1, a, rfl, e2, e3⟩ := h1 _ r hr'
              have hlt := (List.getElem?_eq_some_iff.1 hr').1
              rw [if_neg (by omega)]
              refine ⟨e1, _, rfl, by rw [add_block]; exact e2, fun j hj => ?_⟩
              rw [add_add, hse, hb, ← Nat.add_assoc, ← Nat.add_mul]
              exact e3 j hj
            · refine h2 (l + i) r j p ?_ hp
              rw [List.getElem?_drop] at hr
              have := (List.getElem?_eq_some_iff.1 hr).1
              rw [List.getElem?_take_of_lt (by simp only [List.length_take] at this; omega)] at hr
              exact hr
        · exact h.elim
      · exact h.elim
    · rename_i e id z off len
      obtain rfl := tkOf_slice htk
      split at h
      · rename_i hle
        obtain ⟨ie, ue, ze, hie, _, _, _, hse, _, _, _, _⟩ := look_spec hT hle
        split at h
        · rename_i hb
          have hb := Nat.eq_of_beq_eq_true hb
          obtain ⟨l, hh, hl1, hh1, h3, h4, h⟩ := h
          obtain ⟨b, cap, o, rfl, hbl, hcap, hm, ho, t', hsh⟩ := ms_inv hx
          have hbd := run_sliceBounds (P := P) true len cap hlo hhi hl1 hh1 h3 (by omega)
          have hval : (if cap = l then some (⟨b.1, o, none⟩ : Addr) else some (Addr.add ⟨b.1, o, none⟩ (l * ie.size))) = some ⟨b.1, (if cap = l then o else o + l * z), none⟩ := by
            split
            · rfl
            · rw [add_at, hse, hb]
          refine ⟨_, h, .slice (if cap = l then some ⟨b.1, o, none⟩ else some (Addr.add ⟨b.1, o, none⟩ (l * ie.size))) (hh - l) (cap - l), ?_, ?_⟩
          · simp [Instr.sliceAt, Instr.slice, run_underlying hu, hbd, sizeOf, typeInfo, hie]
          · rw [hval]
            refine .ms hbl (by omega) (by omega) ?_ ⟨t', ?_⟩
            · split
              · rename_i hcl
                rcases ho with rfl | ⟨h5, h6⟩
                · rcases Nat.eq_zero_or_pos (off + l + b.2) with h0 | h0
                  · left
                    rw [show off + l + b.2 = off + b.2 from by omega]
                  · exact .inr ⟨by omega, h0⟩
                · exact .inr ⟨by omega, by omega⟩
              · rename_i hcl
                rcases ho with rfl | ⟨h5, h6⟩
                · left; rw [show off + l + b.2 = off + b.2 + l from by omega, Nat.add_mul (off + b.2) l]
                · omega
            · rw [show off + l + b.2 + (cap - l) = off + b.2 + cap from by omega]; exact hsh
        · exact h.elim
      · exact h.elim
    · obtain rfl := tkOf_str htk
      obtain ⟨l, hh, hl1, hh1, h3, h4, h⟩ := h
      obtain rfl := val_inv hx
      have hbd := run_sliceBounds (P := P) false _ _ hlo hhi hl1 hh1 h3 h4
      exact ⟨_, h, _, by simp [Instr.sliceAt, Instr.slice, run_underlying hu, hbd], rel_val _⟩
    · exact h.elim
  · exact h.elim

theorem splice_get {α : Type} : ∀ (n : Nat) (xs cs : List α), n + xs.length ≤ cs.length → ∀ j : Nat, (splice n xs cs)[j]? = if n ≤ j ∧ j < n + xs.length then xs[j - n]? else cs[j]?
  | 0, [], cs, h, j => by simp [splice]
  | 0, x :: xs, [], h, j => by simp at h
  | 0, x :: xs, c :: cs, h, j => by
    simp only [splice]
    cases j with
    | zero => simp
    | succ j =>
      have := splice_get 0 xs cs (by simp at h ⊢; omega) j
      simp only [List.getElem?_cons_succ, List.length_cons] at this ⊢
      rw [this]
      by_cases hj : j < xs.length
      · rw [if_pos (by omega), if_pos (by omega)]
        simp
      · rw [if_neg (by omega), if_neg (by omega)]
  | n + 1, xs, [], h, j => by simp at h
  | n + 1, xs, c :: cs, h, j => by
    simp only [splice]
    cases j with
    | zero => simp
    | succ j =>
      have := splice_get n xs cs (by simp at h; omega) j
      simp only [List.getElem?_cons_succ] at this ⊢
      rw [this]
      by_cases hj : n ≤ j ∧ j < n + xs.length
      · rw [if_pos hj, if_pos (by omega), show j + 1 - (n + 1) = j - n from by omega]
      · rw [if_neg hj, if_neg (by omega)]

theorem splice_length {α : Type} : ∀ (n : Nat) (xs cs : List α), n + xs.length ≤ cs.length → (splice n xs cs).length = cs.length
  | 0, [], cs, h => by simp [splice]
  | 0, x :: xs, [], h => by simp at h
  | 0, x :: xs, c :: cs, h => by
    simp only [splice, List.length_cons]
    rw [splice_length 0 xs cs (by simp at h ⊢; omega)]
  | n + 1, xs, [], h => by simp at h
  | n + 1, xs, c :: cs, h => by
    simp only [splice, List.length_cons]
    rw [splice_length n xs cs (by simp at h; omega)]

theorem fold_set (off : Nat) : ∀ (l : List Value) (k : Nat) (cs : Array Value), ((l.zipIdx k).foldl (fun cs (x : Value × Nat) => cs.setIfInBounds (off + x.2) x.1) cs).size = cs.size ∧
    ∀ j : Nat, off + k + l.length ≤ cs.size → ((l.zipIdx k).foldl (fun cs (x : Value × Nat) => cs.setIfInBounds (off + x.2) x.1) cs)[j]? = if off + k ≤ j ∧ j < off + k + l.length then l[j - (off + k)]? else cs[j]?
  | [], k, cs => by
    refine ⟨rfl, fun j h => ?_⟩
    simp only [List.zipIdx_nil, List.foldl_nil, List.length_nil]
    rw [if_neg (by omega)]
  | v :: l, k, cs => by
    obtain ⟨h1, h2⟩ := fold_set off l (k + 1) (cs.setIfInBounds (off + k) v)
    refine ⟨by simpa using h1, fun j h => ?_⟩
    simp only [List.zipIdx_cons, List.foldl_cons]
    simp only [List.length_cons] at h
    rw [h2 j (by simp; omega)]
    simp only [List.length_cons]
    by_cases hj : j = off + k
    · subst hj
      rw [if_neg (by omega), if_pos (by omega), Array.getElem?_setIfInBounds_self_of_lt (by omega)]
      simp
    · by_cases hj2 : off + (k + 1) ≤ j ∧ j < off + (k + 1) + l.length
      · rw [if_pos hj2, if_pos (by omega)]
        obtain ⟨m, hm⟩ : ∃ m, j - (off + k) = m + 1 := ⟨j - (off + k) - 1, by omega⟩
        rw [hm, show j - (off + (k + 1)) = m from by omega]
        simp
      · rw [if_neg hj2, if_neg (by omega), Array.getElem?_setIfInBounds_ne (by omega)]

/-- Abstract cells and real ones. -/
def CRel (I : Nat → Prop) (β : Beta) (w : World) (cs : List AV) (vs : Array Value) : Prop := vs.size = cs.length ∧ ∀ (j : Nat) c, cs[j]? = some c → ∃ v, vs[j]? = some v ∧ ARel I β w c v

theorem CRel.agg {cs : List AV} {vs : Array Value} (h : CRel I β w cs vs) : ARel I β w (.agg cs) (.agg vs) :=
  .agg h.1 fun j c hc => by
    obtain ⟨v, hv, hr⟩ := h.2 j c hc
    have hlt := (Array.getElem?_eq_some_iff.1 hv).1
    have e : vs.getD j undef = v := by
      have := (Array.getElem?_eq_some_iff.1 hv).2
      simp [hlt, this]
    rw [e]; exact hr

theorem CRel.of_cells {x : AV} {v : Value} (h1 : allOne (cellsOf x) = true) (h : ARel I β w x v) : CRel I β w (cellsOf x) v.cells := by
  obtain ⟨a, b, _⟩ := cells_rel h1 h
  refine ⟨a, fun j c hc => ?_⟩
  have hlt := (List.getElem?_eq_some_iff.1 hc).1
  have hlt2 : j < v.cells.size := by omega
  exact ⟨v.cells[j], Array.getElem?_eq_getElem hlt2, by simpa [hlt2] using b j c hc⟩

theorem CRel.fold {cs new : List AV} {vs nv : Array Value} {off : Nat} (h : CRel I β w cs vs) (hn : CRel I β w new nv) (hle : off + new.length ≤ cs.length) :
    CRel I β w (splice off new cs) (nv.zipIdx.foldl (fun cs (x : Value × Nat) => cs.setIfInBounds (off + x.2) x.1) vs) := by
  have hf := fold_set off nv.toList 0 vs
  have e : nv.zipIdx.foldl (fun cs (x : Value × Nat) => cs.setIfInBounds (off + x.2) x.1) vs = (nv.toList.zipIdx 0).foldl (fun cs (x : Value × Nat) => cs.setIfInBounds (off + x.2) x.1) vs := by
    rw [← Array.foldl_toList, Array.toList_zipIdx]
  rw [e]
  refine ⟨by rw [hf.1, h.1, splice_length _ _ _ hle], fun j c hj => ?_⟩
  rw [splice_get _ _ _ hle] at hj
  have hg := hf.2 j (by simp; have := h.1; have := hn.1; omega)
  simp only [Nat.add_zero, Array.length_toList] at hg
  rw [hg]
  by_cases hc : off ≤ j ∧ j < off + new.length
  · rw [if_pos hc] at hj
    rw [if_pos (by have := hn.1; omega)]
    obtain ⟨v, hv, hr⟩ := hn.2 _ _ hj
    exact ⟨v, by simpa using hv, hr⟩
  · rw [if_neg hc] at hj
    rw [if_neg (by have := hn.1; omega)]
    exact h.2 _ _ hj

theorem buildCells_sound (hT : TabOk P T) {fs : List Field} {ρ : Operand → Option AV} {val : Operand → Value} (hρ : ∀ x v, ρ x = some v → ARel I β w v (val x))
    {places : List (Nat × Nat)} (hp : ∀ (i : Nat) f d, fs[i]? = some f → P.info? f.type = some d → places[i]? = some (f.offset, d.size)) :
    ∀ (parts : List (Nat × Operand)) (cs : List AV) (vs : Array Value) (out : List AV), CRel I β w cs vs → buildCells T (fs.map fun f => (f.offset, f.type)) ρ cs parts = some out →
      ∃ cells, Instr.fill (places.toArray[·]?) vs (parts.map fun (i, x) => (i, val x)) = some cells ∧ CRel I β w out cells
  | [], cs, vs, out, hc, h => by
    simp only [buildCells, Option.some.injEq] at h
    subst h
    exact ⟨vs, rfl, hc⟩
  | (i, x) :: l, cs, vs, out, hc, h => by
    simp only [buildCells] at h
    split at h
    · rename_i off t v hf hv
      split at h
      · rename_i hl
        obtain ⟨ii, u, zv, hii, hu, _, _, hsz, _, _, _, _⟩ := look_spec hT hl
        split at h
        · rename_i hb
          simp only [Bool.and_eq_true] at hb
          obtain ⟨hb1, hb2, hb3⟩ := hb
          have hb1 := Nat.eq_of_beq_eq_true hb1
          have hb2 := Nat.le_of_ble_eq_true hb2
          simp only [List.getElem?_map, Option.map_eq_some_iff, Prod.mk.injEq] at hf
          obtain ⟨fd, hfd, rfl, rfl⟩ := hf
          have hpl := hp i fd ii hfd hii
          have hcr := CRel.of_cells hb3 (hρ x v hv)
          have hfold := hc.fold (off := fd.offset) hcr (by omega)
          obtain ⟨cells, h1, h2⟩ := buildCells_sound hT hρ hp l _ _ out hfold h
          refine ⟨cells, ?_, h2⟩
          simp only [List.map_cons, Instr.fill]
          have hpl' : places.toArray[i]? = some (fd.offset, ii.size) := by simpa using hpl
          simp only [hpl']
          have hs1 : (val x).cells.size = ii.size := by rw [hcr.1, hb1, hsz]
          have hs2 : fd.offset + ii.size ≤ vs.size := by rw [hc.1, hsz]; exact hb2
          rw [if_neg (by simp [hs1]; exact hs2)]
          exact h1
        · cases h
      · cases h
    · cases h

theorem places_of (hT : TabOk P T) : ∀ (fs : List Field), ((fs.map fun f => (f.offset, f.type)).all fun f => (look T f.2).isSome) = true →
    ∃ places, fs.mapM (fun f => (P.info? f.type).map fun i => (f.offset, i.size)) = some places ∧ ∀ (i : Nat) f d, fs[i]? = some f → P.info? f.type = some d → places[i]? = some (f.offset, d.size)
  | [], _ => ⟨[], rfl, fun i f d h _ => by simp at h⟩
  | f :: fs, h => by
    simp only [List.map_cons, List.all_cons, Bool.and_eq_true] at h
    obtain ⟨places, h1, h2⟩ := places_of hT fs h.2
    obtain ⟨d, hd⟩ := Option.isSome_iff_exists.1 h.1
    obtain ⟨size, bytes, agg, tk, zero⟩ := d
    obtain ⟨i, u, zv, hi, _⟩ := look_spec hT hd
    refine ⟨(f.offset, i.size) :: places, by simp [List.mapM_cons, hi, h1], fun j g d' hj hd' => ?_⟩
    cases j with
    | zero =>
      simp at hj; subst hj
      rw [hi] at hd'; injection hd' with hd'; subst hd'
      rfl
    | succ j => exact h2 j g d' (by simpa using hj) hd'

theorem CRel.zero {z : Value} : CRel I β w (pvs (z.cells.toList.map .val)) z.cells := by
  refine ⟨by simp [pvs_length], fun j c hc => ?_⟩
  obtain ⟨p, hp, rfl⟩ := pvs_get.1 hc
  simp only [List.getElem?_map, Option.map_eq_some_iff] at hp
  obtain ⟨v, hv, rfl⟩ := hp
  exact ⟨v, by simpa using hv, rel_val v⟩

theorem vcBuild_struct (hT : TabOk P T) {t : TypeId} {parts : List (Nat × Operand)} {ρ : Operand → Option AV} {val : Operand → Value} {K : AV → Prop} (hρ : ∀ x v, ρ x = some v → ARel I β w v (val x))
    {size bytes : Nat} {agg : Bool} {fs : List (Nat × TypeId)} {zero : List PV} (hl : look T t = some ⟨size, bytes, agg, .struct fs, zero⟩)
    {cs : List AV} (h1 : fs.all (fun f => (look T f.2).isSome) = true) (h2 : buildCells T fs ρ (pvs zero) parts = some cs) (h : K (.agg cs)) :
    ∃ r, K r ∧ Yields P I β w (Instr.build t (parts.toArray.map fun (i, x) => (i, val x))) r := by
  obtain ⟨i, u, z, hi, hu, hz, hzs, hsz, _, _, htk, hzero⟩ := look_spec hT hl
  obtain ⟨Fs, rfl, rfl⟩ := tkOf_struct htk
  obtain ⟨places, hp1, hp2⟩ := places_of hT _ h1
  rw [hzero] at h2
  obtain ⟨cells, hf, hr⟩ := buildCells_sound hT hρ hp2 parts _ z.cells cs CRel.zero h2
  refine ⟨_, h, _, run_build w t _ cells ?_, hr.agg⟩
  simp only [Program.built, hi, hu, hz, hp1]
  simpa using hf

end
end Go.Cw
