/-
  Cw, part R: every operation but a call of a function does what 'vcOp' says.
-/
import Derived.Test.YtlhakdmenohdnaaCwQ
namespace Go.Cw
set_option linter.unusedVariables false
section
variable {P : Program} {T : Tab} {I : Nat → Prop} {β : Beta} {w : World} {H : Heap}

def OpOut (P : Program) (I : Nat → Prop) (β : Beta) (w : World) (H : Heap) (a : Act) (o : Oper) (r : AV) (u : Upd) (site : Nat) : Prop :=
  ∃ nx v w', (execOp a.eval o).run P w = .ok nx w' ∧ (nx = .value v ∨ (nx = .skip ∧ v = undef)) ∧ Left_ I β w H r u v w' site

theorem OpOut.pure {a : Act} {o : Oper} {r : AV} {v : Value} {site : Nat} (hH : HSim I β H w) (hrun : (execOp a.eval o).run P w = .ok (.value v) w) (hr : ARel I β w r v) : OpOut P I β w H a o r [] site :=
  ⟨_, v, w, hrun, .inl rfl, Left_.same hH hr⟩

theorem mapM_spec {ρ : Operand → Option AV} : ∀ {l : List Operand} {vs : List AV}, l.mapM ρ = some vs → vs.length = l.length ∧ ∀ (j : Nat) x, l[j]? = some x → ∃ v, vs[j]? = some v ∧ ρ x = some v
  | [], vs, h => by simp at h; subst h; simp
  | x :: l, vs, h => by
    simp only [List.mapM_cons, Option.bind_eq_bind, Option.bind_eq_some_iff, Option.pure_def, Option.some.injEq] at h
    obtain ⟨v, hv, vs', hvs, rfl⟩ := h
    obtain ⟨h1, h2⟩ := mapM_spec hvs
    refine ⟨by simp [h1], fun j y hy => ?_⟩
    cases j with
    | zero => simp at hy; subst hy; exact ⟨v, rfl, hv⟩
    | succ j => exact h2 j y (by simpa using hy)

theorem vcOp_sound (hT : TabOk P T) (hH : HSim I β H w) {a : Act} {ρ : Operand → Option AV} (hρ : ∀ x v, ρ x = some v → ARel I β w v (a.eval x)) {o : Oper} {site : Nat} (hsite : isAlloc o.op = true → β[site]? = some none)
    {K : AV → Upd → List Nat → Prop} (h : vcOp T site o.op ρ H K) : ∃ r u rd, K r u rd ∧ OpOut P I β w H a o r u (bif isAlloc o.op then site else β.length) := by
  obtain ⟨dst, op, oty, pos, after, guard⟩ := o
  dsimp only at h hsite ⊢
  have yield : ∀ {x : Sem Value} {r : AV}, Yields P I β w x r → (∀ v, x.run P w = .ok v w → (execOp a.eval ⟨dst, op, oty, pos, after, guard⟩).run P w = .ok (.value v) w) →
      OpOut P I β w H a ⟨dst, op, oty, pos, after, guard⟩ r [] (bif isAlloc op then site else β.length) := fun hy hrun => by
    obtain ⟨v, hv, hr⟩ := hy
    exact OpOut.pure hH (hrun v hv) hr
  unfold vcOp at h
  split at h
  · -- move
    split at h
    · rename_i v hv
      exact ⟨_, _, _, h, OpOut.pure hH (by simp [execOp]) (hρ _ _ hv)⟩
    · exact h.elim
  · -- assign
    split at h
    · rename_i v hv
      exact ⟨_, _, _, h, OpOut.pure hH (by simp [execOp]) (hρ _ _ hv)⟩
    · exact h.elim
  · -- pick
    rename_i c x y
    split at h
    · rename_i vc hc
      unfold vcPick at h
      split at h
      · rename_i t
        have hcv := val_inv (hρ _ _ hc)
        cases t
        · have h := h.2 rfl
          split at h
          · rename_i v hv
            exact ⟨_, _, _, h, OpOut.pure hH (by simp [execOp, hcv, asBool]) (hρ _ _ hv)⟩
          · exact h.elim
        · have h := h.1 rfl
          split at h
          · rename_i v hv
            exact ⟨_, _, _, h, OpOut.pure hH (by simp [execOp, hcv, asBool]) (hρ _ _ hv)⟩
          · exact h.elim
      · exact h.elim
    · exact h.elim
  · -- alloc
    rename_i t
    split at h
    · rename_i size bytes agg tk zero hl
      obtain ⟨i, u, z, hi, hu, hz, hzs, hsz, _, _, _, hzero⟩ := look_spec hT hl
      obtain ⟨hone, h⟩ := h
      have hcr : CRel I β w (pvs zero) z.cells := by rw [hzero]; exact CRel.zero
      have hl2 : (pvs zero).length = size := by rw [← hcr.1, hzs, hsz]
      have h1 : ∀ u ∈ z.cells.toList, u.oneCell' = true := fun u hu => by
        obtain ⟨j, hj, rfl⟩ := List.getElem_of_mem hu
        simp only [Array.length_toList] at hj
        have hlt : j < (pvs zero).length := by rw [← hcr.1]; exact hj
        obtain ⟨v, hv, hr⟩ := hcr.2 j _ (List.getElem?_eq_getElem hlt)
        have e : z.cells.toList[j] = v := by
          have := (Array.getElem?_eq_some_iff.1 hv).2
          simpa using this
        rw [e]; exact (one_rel (allOne_get hone (List.getElem?_eq_getElem hlt)) hr).1
      have hb := new_box hH (hsite rfl) t hcr h1
      rw [hl2] at hb
      exact ⟨_, _, _, h, _, _, _, by simp [execOp, run_alloc hi hz], .inl rfl, hb⟩
    · exact h.elim
  · -- box
    rename_i t x
    split at h
    · rename_i size bytes agg tk zero v hl hv
      split at h
      · rename_i hck
        simp only [Bool.and_eq_true] at hck
        have hlen := Nat.eq_of_beq_eq_true hck.1
        have hb := new_box hH (hsite rfl) t (CRel.of_cells hck.2 (hρ _ _ hv)) (cells_rel hck.2 (hρ _ _ hv)).2.2
        rw [hlen] at hb
        exact ⟨_, _, _, h, _, _, _, by simp [execOp, run_box], .inl rfl, hb⟩
      · exact h.elim
    · exact h.elim
  · -- build
    rename_i t parts
    unfold vcBuild at h
    split at h
    · rename_i size bytes agg tk zero hl
      split at h
      · rename_i fs
        split at h
        · rename_i cs h1 h2
          obtain ⟨r, hk, hy⟩ := vcBuild_struct (K := fun r => K r [] []) hT (val := a.eval) hρ hl h1 h2 h
          refine ⟨_, _, _, hk, yield hy fun v hv => ?_⟩
          have e : (parts.toList.toArray.map fun x => match x with | (i, x) => (i, a.eval x)) = parts.map fun x => match x with | (i, x) => (i, a.eval x) := by simp
          rw [e] at hv
          simp [execOp, hv]
        · exact h.elim
      · exact h.elim
    · exact h.elim
  · -- buildSlice
    rename_i t len parts
    split at h
    · rename_i size bytes agg tk zero hl
      split at h
      · rename_i e
        split at h
        · rename_i esize ebytes _ _ ezero hle
          split at h
          · rename_i rs hrs
            split at h
            · rename_i hck
              simp only [Bool.and_eq_true] at hck
              obtain ⟨v', w', hrun, hleft⟩ := vcBuildSlice_sound hT hH (hsite rfl) (val := a.eval) hρ hl hle hrs (Nat.eq_of_beq_eq_true hck.1) (Nat.le_of_ble_eq_true hck.2.1) (Nat.le_of_ble_eq_true hck.2.2)
              refine ⟨_, _, _, h, .value v', v', w', ?_, .inl rfl, hleft⟩
              have e : (parts.toList.toArray.map fun x => match x with | (i, x) => (i, a.eval x)) = parts.map fun x => match x with | (i, x) => (i, a.eval x) := by simp
              rw [e] at hrun
              simp [execOp, hrun]
            · exact h.elim
          · exact h.elim
        · exact h.elim
      · exact h.elim
    · exact h.elim
  · -- load
    split at h
    · rename_i v hv
      obtain ⟨r, rd, hk, hy⟩ := vcLoad_sound hT hH (hρ _ _ hv) h
      exact ⟨_, _, _, hk, yield hy fun v hv => by simp [execOp, hv]⟩
    · exact h.elim
  · -- store
    split at h
    · rename_i va vx h1 h2
      obtain ⟨u, rd, hk, w', hrun, hleft⟩ := vcStore_sound hT hH (hρ _ _ h1) (hρ _ _ h2) β.length h
      exact ⟨_, _, _, hk, .skip, undef, w', by simp [execOp, hrun], .inr ⟨rfl, rfl⟩, hleft⟩
    · exact h.elim
  · -- nilCheck
    split at h
    · rename_i id z row col hv
      obtain ⟨b, hb, he⟩ := ptr_inv (hρ _ _ hv)
      exact ⟨_, _, _, h, OpOut.pure hH (by simp only [execOp, he]; rfl) (he ▸ hρ _ _ hv)⟩
    · rename_i cs hv
      obtain ⟨b, he, _⟩ := ia_inv (hρ _ _ hv)
      exact ⟨_, _, _, h, OpOut.pure hH (by simp only [execOp, he]; rfl) (he ▸ hρ _ _ hv)⟩
    · rename_i f caps hv
      have hr := hρ _ _ hv
      cases hr with
      | pv hp =>
        generalize he : a.eval _ = u at hp
        cases hp with
        | fn hl hc =>
          exact ⟨_, _, _, h, OpOut.pure hH (by simp only [execOp, he]; rfl) (.pv (.fn hl hc))⟩
    · rename_i f caps hv
      have hr := hρ _ _ hv
      generalize he : a.eval _ = u at hr
      cases hr with
      | fn hl hc => exact ⟨_, _, _, h, OpOut.pure hH (by simp only [execOp, he]; rfl) (.fn hl hc)⟩
    · exact h.elim
  · -- binOp
    rename_i op t x y yt
    split at h
    · rename_i vx vy h1 h2
      obtain ⟨r, hk, hy⟩ := vcBin_sound hT (hρ _ _ h1) (hρ _ _ h2) x y h
      exact ⟨_, _, _, hk, yield hy fun v hv => by
        simp only [Sem.run_bind] at hv
        simp only [execOp, Sem.run_bind, hv, Result.andThen_ok, Sem.run_pure]⟩
    · exact h.elim
  · -- unOp
    split at h
    · rename_i v hv
      obtain ⟨r, hk, hy⟩ := vcUn_sound (hρ _ _ hv) h
      exact ⟨_, _, _, hk, yield hy fun v hv => by simp [execOp, hv]⟩
    · exact h.elim
  · -- makeFunc
    rename_i f first caps
    split at h
    · rename_i vs hf hc
      obtain ⟨hl, hm⟩ := mapM_spec hc
      have ef : first = #[] := by simpa using hf
      subst ef
      refine ⟨_, _, _, h, OpOut.pure (v := .func (.func f) #[] (caps.map a.eval)) hH (by simp [execOp, Instr.makeFunc]) (.fn (by simp [hl]) fun j c hj => ?_)⟩
      have hlt : j < caps.size := by have := (List.getElem?_eq_some_iff.1 hj).1; rw [hl] at this; simpa using this
      obtain ⟨v, hv, hx⟩ := hm j caps[j] (by simp [hlt])
      rw [hj] at hv; injection hv with hv; subst hv
      have := hρ _ _ hx
      simpa [hlt] using this
    · exact h.elim
  · -- makeSlice
    split at h
    · rename_i vl vc h1 h2
      obtain ⟨r, u, rd, hk, v', w', hrun, hleft⟩ := vcMakeSlice_sound hT hH (hsite rfl) (hρ _ _ h1) (hρ _ _ h2) h
      exact ⟨_, _, _, hk, .value v', v', w', by simp [execOp, hrun], .inl rfl, hleft⟩
    · exact h.elim
  · -- slice
    rename_i t x lo hi
    split at h
    · rename_i v hv
      split at h
      · obtain ⟨r, hk, hy⟩ := vcSlice_sound (lo := none) (hi := none) hT (vlo := none) (vhi := none) (hρ _ _ hv) trivial trivial h
        exact ⟨_, _, _, hk, yield hy fun v hv => by simp [execOp, hv]⟩
      · split at h
        · rename_i vl h1
          obtain ⟨r, hk, hy⟩ := vcSlice_sound (lo := some vl) (hi := none) hT (vlo := some (a.eval _)) (vhi := none) (hρ _ _ hv) (hρ _ _ h1) trivial h
          exact ⟨_, _, _, hk, yield hy fun v hv => by simp [execOp, hv]⟩
        · exact h.elim
      · split at h
        · rename_i vl h1
          obtain ⟨r, hk, hy⟩ := vcSlice_sound (lo := none) (hi := some vl) hT (vlo := none) (vhi := some (a.eval _)) (hρ _ _ hv) trivial (hρ _ _ h1) h
          exact ⟨_, _, _, hk, yield hy fun v hv => by simp [execOp, hv]⟩
        · exact h.elim
      · split at h
        · rename_i vl vh h1 h2
          obtain ⟨r, hk, hy⟩ := vcSlice_sound (lo := some vl) (hi := some vh) hT (vlo := some (a.eval _)) (vhi := some (a.eval _)) (hρ _ _ hv) (hρ _ _ h1) (hρ _ _ h2) h
          exact ⟨_, _, _, hk, yield hy fun v hv => by simp [execOp, hv]⟩
        · exact h.elim
    · exact h.elim
  · -- fieldAddr
    split at h
    · rename_i v hv
      obtain ⟨r, hk, hy⟩ := vcFieldAddr_sound hT (hρ _ _ hv) h
      exact ⟨_, _, _, hk, yield hy fun v hv => by simp [execOp, hv]⟩
    · exact h.elim
  · -- field
    split at h
    · rename_i v hv
      obtain ⟨r, hk, hy⟩ := vcField_sound hT (hρ _ _ hv) h
      exact ⟨_, _, _, hk, yield hy fun v hv => by simp [execOp, hv]⟩
    · exact h.elim
  · -- indexAddr
    split at h
    · rename_i vx vi h1 h2
      obtain ⟨r, hk, hy⟩ := vcIndexAddr_sound hT (hρ _ _ h1) (hρ _ _ h2) h
      exact ⟨_, _, _, hk, yield hy fun v hv => by simp [execOp, hv]⟩
    · exact h.elim
  · -- extract
    rename_i x i
    split at h
    · rename_i vs hv
      split at h
      · rename_i v hvi
        have hr := hρ _ _ hv
        generalize he : a.eval x = u at hr
        cases hr with
        | tup hl hc =>
          rename_i arr
          have hlt : i < arr.size := by have := (List.getElem?_eq_some_iff.1 hvi).1; omega
          have := hc i v hvi
          exact ⟨_, _, _, h, OpOut.pure (v := arr.getD i undef) hH (by simp [execOp, he, Instr.extract, hlt]) this⟩
      · exact h.elim
    · exact h.elim
  · -- builtin
    rename_i b args ats
    split at h
    · -- len
      split at h
      · rename_i x t hargs hats
        split at h
        · rename_i v hv
          have e1 : args = #[x] := by have := congrArg List.toArray hargs; simpa using this
          have e2 : ats = #[t] := by have := congrArg List.toArray hats; simpa using this
          subst e1; subst e2
          obtain ⟨r, hk, hy⟩ := vcLen_sound (ty := oty) hT (hρ _ _ hv) h
          exact ⟨_, _, _, hk, yield hy fun v hv => by simp [execOp, resolve, invoke, builtin, hv]⟩
        · exact h.elim
      · exact h.elim
    · -- append
      split at h
      · rename_i s x t t2 hargs hats
        split at h
        · rename_i vs vx htt h1 h2
          have htt := Nat.eq_of_beq_eq_true htt; subst htt
          have e1 : args = #[s, x] := by have := congrArg List.toArray hargs; simpa using this
          have e2 : ats = #[t, t] := by have := congrArg List.toArray hats; simpa using this
          subst e1; subst e2
          obtain ⟨r, u, rd, hk, v', w', hrun, hleft⟩ := vcAppend_sound (ty := oty) hT hH (hsite rfl) (hρ _ _ h1) (hρ _ _ h2) h
          exact ⟨_, _, _, hk, .value v', v', w', by simp [execOp, resolve, invoke, builtin, hrun], .inl rfl, hleft⟩
        · exact h.elim
      · exact h.elim
    · -- min
      obtain ⟨r, hk, hy⟩ := vcMinMax_sound (isMax := false) (vs := (args.map a.eval).toList) ats oty (fun j x hx => by
        simp only [List.getElem?_map, Option.map_eq_some_iff] at hx
        obtain ⟨y, hy, hx⟩ := hx
        exact ⟨a.eval y, by simpa using ⟨y, by simpa using hy, rfl⟩, hρ _ _ hx⟩) (by simp) h
      exact ⟨_, _, _, hk, yield hy fun v hv => by
        simp only [cond_false, Array.toArray_toList] at hv
        simp [execOp, resolve, invoke, builtin, hv]⟩
    · -- max
      obtain ⟨r, hk, hy⟩ := vcMinMax_sound (isMax := true) (vs := (args.map a.eval).toList) ats oty (fun j x hx => by
        simp only [List.getElem?_map, Option.map_eq_some_iff] at hx
        obtain ⟨y, hy, hx⟩ := hx
        exact ⟨a.eval y, by simpa using ⟨y, by simpa using hy, rfl⟩, hρ _ _ hx⟩) (by simp) h
      exact ⟨_, _, _, hk, yield hy fun v hv => by
        simp only [cond_true, Array.toArray_toList] at hv
        simp [execOp, resolve, invoke, builtin, hv]⟩
    · exact h.elim
  · exact h.elim

end
end Go.Cw
