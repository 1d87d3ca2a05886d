/-
  Cw, part Z: an operation does the same wherever what it looks at is the same.
-/
import Derived.Test.YtlhakdmenohdnaaCwY
namespace Go.Cw
set_option linter.unusedVariables false
set_option linter.unusedSimpArgs false
section
variable {T : Tab} {H : Heap}

theorem intBin_pin {op : BinOp} {k : IntKind} {x y : Int} {K : AV → Prop} (h : intBin op k x y K) : ∃ r, K r ∧ ∀ K' : AV → Prop, K' r → intBin op k x y K' := by
  cases op <;> simp only [intBin, eqv_eq] at h ⊢ <;> first | exact h.elim | exact ⟨_, h, fun _ h => h⟩ | exact ⟨_, h.2, fun _ h' => ⟨h.1, h'⟩⟩
theorem strBin_pin {op : BinOp} {x y : ByteArray} {K : AV → Prop} (h : strBin op x y K) : ∃ r, K r ∧ ∀ K' : AV → Prop, K' r → strBin op x y K' := by
  cases op <;> simp only [strBin] at h ⊢ <;> first | exact h.elim | exact ⟨_, h, fun _ h => h⟩ | exact ⟨_, h.2, fun _ h' => ⟨h.1, h'⟩⟩
theorem eqBin_pin {op : BinOp} {tk : TK} {x y : AV} {K : AV → Prop} (h : eqBin op tk x y K) : ∃ r, K r ∧ ∀ K' : AV → Prop, K' r → eqBin op tk x y K' := by
  unfold eqBin at h
  split at h <;> first | exact h.elim | exact ⟨_, h, fun _ h => h⟩ | exact ⟨_, h.2, fun _ h' => ⟨h.1, h'⟩⟩
theorem vcBin_pin {op : BinOp} {t : TypeId} {x y : AV} {K : AV → Prop} (h : vcBin T op t x y K) : ∃ r, K r ∧ ∀ K' : AV → Prop, K' r → vcBin T op t x y K' := by
  unfold vcBin at h
  split at h
  · split at h
    · exact ⟨_, h.2, fun _ h' => ⟨h.1, h'⟩⟩
    · exact ⟨_, h.2, fun _ h' => ⟨h.1, h'⟩⟩
    · split at h
      · rename_i h1 h2 hk
        obtain ⟨r, h3, h4⟩ := intBin_pin h
        refine ⟨r, h3, fun K' h' => ?_⟩
        simp only [vcBin, hk]
        exact h4 K' h'
      · exact h.elim
  · exact strBin_pin h
  · split at h
    · rename_i hl
      obtain ⟨r, h3, h4⟩ := eqBin_pin h
      refine ⟨r, h3, fun K' h' => ?_⟩
      simp only [vcBin, hl]
      exact h4 K' h'
    · exact h.elim
theorem vcUn_pin {op : UnOp} {x : AV} {K : AV → Prop} (h : vcUn op x K) : ∃ r, K r ∧ ∀ K' : AV → Prop, K' r → vcUn op x K' := by
  unfold vcUn at h
  split at h <;> first | exact h.elim | exact ⟨_, h, fun _ h => h⟩ | (rw [eqv_eq] at h; exact ⟨_, h, fun K' h => by simp only [vcUn, eqv_eq]; exact h⟩)
theorem vcTake_pin {size : Nat} {agg : Bool} {cs : List AV} {K : AV → Prop} (h : vcTake size agg cs K) : ∃ r, K r ∧ ∀ K' : AV → Prop, K' r → vcTake size agg cs K' := by
  unfold vcTake at h
  split at h
  · split at h
    · rename_i hb
      exact ⟨_, h, fun K' h' => by simp only [vcTake, hb]; exact h'⟩
    · exact h.elim
  · split at h
    · exact ⟨_, h, fun K' h' => h'⟩
    · exact h.elim
theorem vcBuild_pin {t : TypeId} {parts : List (Nat × Operand)} {ρ : Operand → Option AV} {K : AV → Prop} (h : vcBuild T t parts ρ K) : ∃ r, K r ∧ ∀ K' : AV → Prop, K' r → vcBuild T t parts ρ K' := by
  unfold vcBuild at h
  split at h
  · split at h
    · split at h
      · rename_i h1 _ _ _ h2 h3
        exact ⟨_, h, fun K' h' => by simp only [vcBuild, h1, h2, h3]; exact h'⟩
      · exact h.elim
    · exact h.elim
  · exact h.elim
theorem vcIndexAddr_pin {t : TypeId} {x i : AV} {K : AV → Prop} (h : vcIndexAddr T t x i K) : ∃ r, K r ∧ ∀ K' : AV → Prop, K' r → vcIndexAddr T t x i K' := by
  unfold vcIndexAddr at h
  simp only [eqv_eq] at h
  split at h
  · rename_i h1
    split at h
    · split at h
      · rename_i h2
        split at h
        · rename_i h3
          obtain ⟨k, r, e1, e2, hk⟩ := h
          exact ⟨_, hk, fun K' h' => by simp only [vcIndexAddr, eqv_eq, h1, h2, h3]; exact ⟨k, r, e1, e2, h'⟩⟩
        · exact h.elim
      · exact h.elim
    · split at h
      · rename_i h2
        split at h
        · rename_i h3
          obtain ⟨k, e1, e2, hk⟩ := h
          exact ⟨_, hk, fun K' h' => by simp only [vcIndexAddr, eqv_eq, h1, h2, h3]; exact ⟨k, e1, e2, h'⟩⟩
        · exact h.elim
      · exact h.elim
    · exact h.elim
  · exact h.elim
theorem vcFieldAddr_pin {s : TypeId} {x : AV} {f : Nat} {K : AV → Prop} (h : vcFieldAddr T s x f K) : ∃ r, K r ∧ ∀ K' : AV → Prop, K' r → vcFieldAddr T s x f K' := by
  unfold vcFieldAddr at h
  split at h
  · rename_i h1
    split at h
    · split at h
      · rename_i h2
        split at h
        · rename_i h3
          split at h
          · rename_i h4
            split at h
            · split at h
              · rename_i h5
                exact ⟨_, h, fun K' h' => by simp only [vcFieldAddr, h1, h2, h3, h4, h5]; exact h'⟩
              · exact h.elim
            · exact ⟨_, h, fun K' h' => by simp only [vcFieldAddr, h1, h2, h3, h4]; exact h'⟩
            · exact h.elim
          · exact h.elim
        · exact h.elim
      · exact h.elim
    · exact h.elim
  · exact h.elim
theorem vcField_pin {s : TypeId} {x : AV} {f : Nat} {K : AV → Prop} (h : vcField T s x f K) : ∃ r, K r ∧ ∀ K' : AV → Prop, K' r → vcField T s x f K' := by
  unfold vcField at h
  split at h
  · rename_i h1
    split at h
    · split at h
      · rename_i h2
        split at h
        · rename_i h3
          obtain ⟨r, h4, h5⟩ := vcTake_pin h
          exact ⟨r, h4, fun K' h' => by simp only [vcField, h1, h2, h3]; exact h5 K' h'⟩
        · exact h.elim
      · exact h.elim
    · exact h.elim
  · exact h.elim
theorem vcLen_pin {t : TypeId} {x : AV} {K : AV → Prop} (h : vcLen T t x K) : ∃ r, K r ∧ ∀ K' : AV → Prop, K' r → vcLen T t x K' := by
  unfold vcLen at h
  simp only [eqv_eq] at h
  split at h
  · rename_i h1
    split at h <;> first | exact h.elim | exact ⟨_, h, fun K' h' => by simp only [vcLen, eqv_eq, h1]; exact h'⟩
  · exact h.elim
theorem vcSlice_pin {t : TypeId} {x : AV} {lo hi : Option AV} {K : AV → Prop} (h : vcSlice T t x lo hi K) : ∃ r, K r ∧ ∀ K' : AV → Prop, K' r → vcSlice T t x lo hi K' := by
  unfold vcSlice at h
  simp only [eqv_eq] at h
  split at h
  · rename_i h1
    split at h
    · split at h
      · rename_i h2
        split at h
        · rename_i h3
          obtain ⟨a, b, e1, e2, e3, e4, hk⟩ := h
          exact ⟨_, hk, fun K' h' => by simp only [vcSlice, eqv_eq, h1, h2, h3]; exact ⟨a, b, e1, e2, e3, e4, h'⟩⟩
        · exact h.elim
      · exact h.elim
    · split at h
      · rename_i h2
        split at h
        · rename_i h3
          obtain ⟨a, b, e1, e2, e3, e4, hk⟩ := h
          exact ⟨_, hk, fun K' h' => by simp only [vcSlice, eqv_eq, h1, h2, h3]; exact ⟨a, b, e1, e2, e3, e4, h'⟩⟩
        · exact h.elim
      · exact h.elim
    · obtain ⟨a, b, e1, e2, e3, e4, hk⟩ := h
      exact ⟨_, hk, fun K' h' => by simp only [vcSlice, eqv_eq, h1]; exact ⟨a, b, e1, e2, e3, e4, h'⟩⟩
    · exact h.elim
  · exact h.elim
theorem vcPick_pin {c : AV} {a b : Option AV} {K : AV → Prop} (h : vcPick c a b K) : ∃ r, K r ∧ ∀ K' : AV → Prop, K' r → vcPick c a b K' := by
  unfold vcPick at h
  split at h
  · rename_i t
    cases t
    · have h := h.2 rfl
      split at h
      · exact ⟨_, h, fun K' h' => by simp only [vcPick]; exact ⟨fun e => (nomatch e), fun _ => h'⟩⟩
      · exact h.elim
    · have h := h.1 rfl
      split at h
      · exact ⟨_, h, fun K' h' => by simp only [vcPick]; exact ⟨fun _ => h', fun e => nomatch e⟩⟩
      · exact h.elim
  · exact h.elim
theorem vcMinMax_pin {m : Bool} {xs : List (Option AV)} {K : AV → Prop} (h : vcMinMax m xs K) : ∃ r, K r ∧ ∀ K' : AV → Prop, K' r → vcMinMax m xs K' := by
  unfold vcMinMax at h
  split at h
  · split at h
    · rename_i h1
      exact ⟨_, h, fun K' h' => by simp only [vcMinMax, h1]; exact h'⟩
    · exact h.elim
  · exact h.elim
theorem vcMakeSlice_pin {t : TypeId} {site : Nat} {l c : AV} {K : AV → Upd → List Nat → Prop} (h : vcMakeSlice T t site l c K) : ∃ r u rd, K r u rd ∧ ∀ K' : AV → Upd → List Nat → Prop, K' r u rd → vcMakeSlice T t site l c K' := by
  unfold vcMakeSlice at h
  simp only [eqv_eq] at h
  split at h
  · rename_i h1
    split at h
    · split at h
      · rename_i h2
        obtain ⟨e0, j, k, e1, e2, e3, e4, e5, hk⟩ := h
        exact ⟨_, _, _, hk, fun K' h' => by simp only [vcMakeSlice, eqv_eq, h1, h2]; exact ⟨e0, j, k, e1, e2, e3, e4, e5, h'⟩⟩
      · exact h.elim
    · exact h.elim
  · exact h.elim

/-- With a heap: the objects that were read are the same. -/
def SameOn (rd : List Nat) (H H' : Heap) : Prop := ∀ id ∈ rd, H'[id]? = H[id]?

theorem vcLoad_pin {t : TypeId} {x : AV} {K : AV → List Nat → Prop} (h : vcLoad T t x H K) : ∃ r rd, K r rd ∧ ∀ (H' : Heap) (K' : AV → List Nat → Prop), SameOn rd H H' → K' r rd → vcLoad T t x H' K' := by
  unfold vcLoad at h
  split at h
  · exact h.elim
  · rename_i h1
    split at h
    · obtain ⟨r, h2, h3⟩ := vcTake_pin h
      exact ⟨r, _, h2, fun H' K' _ h' => by simp only [vcLoad, h1]; exact h3 (fun v => K' v []) h'⟩
    · rename_i id z row col
      split at h
      · rename_i o ho
        have same : ∀ {H' : Heap}, SameOn [id] H H' → H'[id]? = some (some o) := fun hs => (hs id (by simp)).trans ho
        split at h
        · rename_i cs hz hr
          split at h
          · obtain ⟨r, h2, h3⟩ := vcTake_pin h
            exact ⟨r, _, h2, fun H' K' hs h' => by simp only [vcLoad, h1, same hs, hz, hr]; exact h3 (fun v => K' v [id]) h'⟩
          · exact h.elim
        · rename_i xs hz hr
          obtain ⟨w, hw, h⟩ := h
          obtain ⟨r, h2, h3⟩ := vcTake_pin h
          exact ⟨r, _, h2, fun H' K' hs h' => by simp only [vcLoad, h1, same hs, hz, hr]; exact ⟨w, hw, h3 (fun v => K' v [id]) h'⟩⟩
        · rename_i xs hz hr
          obtain ⟨w, hw, h⟩ := h
          obtain ⟨r, h2, h3⟩ := vcTake_pin h
          exact ⟨r, _, h2, fun H' K' hs h' => by simp only [vcLoad, h1, same hs, hz, hr]; exact ⟨w, hw, h3 (fun v => K' v [id]) h'⟩⟩
        · exact h.elim
      · exact h.elim
    · exact h.elim

theorem vcStore_pin {t : TypeId} {x v : AV} {K : Upd → List Nat → Prop} (h : vcStore T t x v H K) : ∃ u rd, K u rd ∧ ∀ (H' : Heap) (K' : Upd → List Nat → Prop), SameOn rd H H' → K' u rd → vcStore T t x v H' K' := by
  unfold vcStore at h
  simp only [eqv_eq] at h
  split at h
  · exact h.elim
  · rename_i h1
    split at h
    · exact h.elim
    · rename_i h2
      split at h
      · rename_i id z row col
        split at h
        · rename_i o ho
          have same : ∀ {H' : Heap}, SameOn [id] H H' → H'[id]? = some (some o) := fun hs => (hs id (by simp)).trans ho
          split at h
          · exact h.elim
          · rename_i h3
            split at h
            · rename_i hr
              split at h
              · split at h
                · rename_i h4
                  exact ⟨_, _, h, fun H' K' hs h' => by simp only [vcStore, eqv_eq, h1, h2, same hs, h3, hr, h4]; exact h'⟩
                · exact h.elim
              · exact h.elim
            · rename_i hr
              split at h
              · rename_i h4
                obtain ⟨r, e1, e2, h⟩ := h
                exact ⟨_, _, h, fun H' K' hs h' => by simp only [vcStore, eqv_eq, h1, h2, same hs, h3, hr, h4]; exact ⟨r, e1, e2, h'⟩⟩
              · rename_i h4
                obtain ⟨r, e1, e2, h⟩ := h
                exact ⟨_, _, h, fun H' K' hs h' => by simp only [vcStore, eqv_eq, h1, h2, same hs, h3, hr, h4]; exact ⟨r, e1, e2, h'⟩⟩
            · rename_i hr
              obtain ⟨r, e1, e2, h⟩ := h
              exact ⟨_, _, h, fun H' K' hs h' => by simp only [vcStore, eqv_eq, h1, h2, same hs, h3, hr]; exact ⟨r, e1, e2, h'⟩⟩
        · exact h.elim
      · exact h.elim

theorem srcRows_same {x : AV} {r : Rows} {rd : List Nat} (h : srcRows H x = some (r, rd)) {H' : Heap} (hs : SameOn rd H H') : srcRows H' x = some (r, rd) := by
  unfold srcRows at h ⊢
  split at h
  · exact h
  · exact h
  · rename_i id z off len
    split at h
    · rename_i o ho
      have same : rd = [id] → H'[id]? = some (some o) := fun e => (hs id (by rw [e]; simp)).trans ho
      split at h
      · rename_i hz hr
        have hrd : rd = [id] := by injection h with h; injection h with _ h; exact h.symm
        simp only [same hrd, hz, hr]; exact h
      · rename_i hz hr
        have hrd : rd = [id] := by injection h with h; injection h with _ h; exact h.symm
        simp only [same hrd, hz, hr]; exact h
      · cases h
    · cases h
  · cases h

theorem vcAppend_pin {t : TypeId} {site : Nat} {s x : AV} {K : AV → Upd → List Nat → Prop} (h : vcAppend T t site s x H K) :
    ∃ r u rd, K r u rd ∧ ∀ (H' : Heap) (K' : AV → Upd → List Nat → Prop), SameOn rd H H' → K' r u rd → vcAppend T t site s x H' K' := by
  unfold vcAppend at h
  simp only [eqv_eq] at h
  split at h
  · rename_i h1
    split at h
    · split at h
      · rename_i h2
        split at h
        · rename_i rx rdx h3 h4
          split at h
          · obtain ⟨e1, e2, e3, hp, hz⟩ := h
            rcases Nat.eq_zero_or_pos (rowsLen rx) with h0 | h0
            · exact ⟨_, _, _, hz h0, fun H' K' hs h' => by simp only [vcAppend, eqv_eq, h1, h2, h3, srcRows_same h4 hs]; exact ⟨e1, e2, e3, fun h => by omega, fun _ => h'⟩⟩
            · exact ⟨_, _, _, hp h0, fun H' K' hs h' => by simp only [vcAppend, eqv_eq, h1, h2, h3, srcRows_same h4 hs]; exact ⟨e1, e2, e3, fun _ => h', fun h => by omega⟩⟩
          · rename_i id z off len
            split at h
            · rename_i o hz ho
              split at h
              · rename_i hf hc
                obtain ⟨e1, e2, e3, e4, hk⟩ := h
                refine ⟨_, _, _, hk, fun H' K' hs h' => ?_⟩
                have hs1 : SameOn rdx H H' := fun i hi => hs i (by simp [hi])
                have hs2 : H'[id]? = some (some o) := (hs id (by simp)).trans ho
                simp only [vcAppend, eqv_eq, h1, h2, h3, srcRows_same h4 hs1, hz, hs2, hf, hc]
                exact ⟨e1, e2, e3, e4, h'⟩
              · exact h.elim
            · exact h.elim
          · exact h.elim
        · exact h.elim
      · exact h.elim
    · exact h.elim
  · exact h.elim

theorem rowsOf_congr {ρ ρ' : Operand → Option AV} {z : Nat} : ∀ {l : List (Nat × Operand)} {i : Nat}, (∀ x ∈ l.map (·.2), ρ' x = ρ x) → rowsOf ρ' z i l = rowsOf ρ z i l
  | [], i, _ => rfl
  | (k, x) :: l, i, h => by
    have h1 := h x (by simp)
    have h2 : ∀ x ∈ l.map (·.2), ρ' x = ρ x := fun y hy => h y (by simp only [List.map_cons, List.mem_cons]; exact .inr hy)
    simp only [rowsOf, h1, rowsOf_congr h2]

theorem buildCells_congr {ρ ρ' : Operand → Option AV} {fs : List (Nat × TypeId)} : ∀ {l : List (Nat × Operand)} {cs : List AV}, (∀ x ∈ l.map (·.2), ρ' x = ρ x) → buildCells T fs ρ' cs l = buildCells T fs ρ cs l
  | [], cs, _ => rfl
  | (k, x) :: l, cs, h => by
    have h1 := h x (by simp)
    have h2 : ∀ x ∈ l.map (·.2), ρ' x = ρ x := fun y hy => h y (by simp only [List.map_cons, List.mem_cons]; exact .inr hy)
    have h3 : ∀ cs, buildCells T fs ρ' cs l = buildCells T fs ρ cs l := fun cs => buildCells_congr h2
    simp only [buildCells, h1, h3]

theorem vcBuild_congr {ρ ρ' : Operand → Option AV} {t : TypeId} {l : List (Nat × Operand)} {K : AV → Prop} (h : ∀ x ∈ l.map (·.2), ρ' x = ρ x) : vcBuild T t l ρ' K = vcBuild T t l ρ K := by
  have h3 : ∀ fs cs, buildCells T fs ρ' cs l = buildCells T fs ρ cs l := fun fs cs => buildCells_congr h
  simp only [vcBuild, h3]

theorem mapM_congr {ρ ρ' : Operand → Option AV} : ∀ {l : List Operand}, (∀ x ∈ l, ρ' x = ρ x) → l.mapM ρ' = l.mapM ρ
  | [], _ => rfl
  | x :: l, h => by
    have h1 := h x (by simp)
    have h2 : ∀ x ∈ l, ρ' x = ρ x := fun y hy => h y (by simp [hy])
    simp only [List.mapM_cons, h1, mapM_congr h2]

theorem mapO_congr {α γ : Type} {f f' : α → Option γ} : ∀ {l : List α}, (∀ x ∈ l, f' x = f x) → mapO f' l = mapO f l
  | [], _ => rfl
  | x :: l, h => by
    have h1 := h x (by simp)
    have h2 : ∀ x ∈ l, f' x = f x := fun y hy => h y (by simp [hy])
    simp only [mapO, h1, mapO_congr h2]

theorem vcOp_pin {site : Nat} {op : Op} {ρ : Operand → Option AV} {K : AV → Upd → List Nat → Prop} (h : vcOp T site op ρ H K) :
    ∃ r u rd, K r u rd ∧ ∀ (ρ' : Operand → Option AV) (H' : Heap) (K' : AV → Upd → List Nat → Prop), (∀ x ∈ op.operands, ρ' x = ρ x) → SameOn rd H H' → K' r u rd → vcOp T site op ρ' H' K' := by
  have o1 : ∀ {ρ' : Operand → Option AV} {x : Operand} {l : Array Operand}, (∀ x ∈ l, ρ' x = ρ x) → x ∈ l → ρ' x = ρ x := fun h hx => h _ hx
  cases op with
  | move x =>
    simp only [vcOp] at h
    split at h
    · rename_i v hv
      exact ⟨_, _, _, h, fun ρ' H' K' he _ h' => by simp only [vcOp, he x (by simp [Op.operands]), hv]; exact h'⟩
    · exact h.elim
  | assign x =>
    simp only [vcOp] at h
    split at h
    · rename_i v hv
      exact ⟨_, _, _, h, fun ρ' H' K' he _ h' => by simp only [vcOp, he x (by simp [Op.operands]), hv]; exact h'⟩
    · exact h.elim
  | pick c a b =>
    simp only [vcOp] at h
    split at h
    · rename_i v hv
      obtain ⟨r, h1, h2⟩ := vcPick_pin h
      exact ⟨_, _, _, h1, fun ρ' H' K' he _ h' => by simp only [vcOp, he c (by simp [Op.operands]), he a (by simp [Op.operands]), he b (by simp [Op.operands]), hv]; exact h2 (fun v => K' v [] []) h'⟩
    · exact h.elim
  | alloc t =>
    simp only [vcOp] at h
    split at h
    · rename_i hv
      exact ⟨_, _, _, h.2, fun ρ' H' K' he _ h' => by simp only [vcOp, hv]; exact ⟨h.1, h'⟩⟩
    · exact h.elim
  | box t x =>
    simp only [vcOp] at h
    split at h
    · rename_i h1 h2
      split at h
      · rename_i h3
        exact ⟨_, _, _, h, fun ρ' H' K' he _ h' => by simp only [vcOp, he x (by simp [Op.operands]), h1, h2, h3]; exact h'⟩
      · exact h.elim
    · exact h.elim
  | build t ps =>
    simp only [vcOp] at h
    obtain ⟨r, h1, h2⟩ := vcBuild_pin h
    exact ⟨_, _, _, h1, fun ρ' H' K' he _ h' => by
      simp only [vcOp]
      rw [vcBuild_congr (fun x hx => he x (by simpa [Op.operands] using hx))]
      exact h2 (fun v => K' v [] []) h'⟩
  | buildSlice t n ps =>
    simp only [vcOp] at h
    split at h
    · rename_i h1
      split at h
      · split at h
        · rename_i h2
          split at h
          · rename_i h3
            split at h
            · rename_i h4
              exact ⟨_, _, _, h, fun ρ' H' K' he _ h' => by
                simp only [vcOp, h1, h2]
                rw [rowsOf_congr (fun x hx => he x (by simpa [Op.operands] using hx))]
                simp only [h3, h4]; exact h'⟩
            · exact h.elim
          · exact h.elim
        · exact h.elim
      · exact h.elim
    · exact h.elim
  | load t x =>
    simp only [vcOp] at h
    split at h
    · rename_i v hv
      obtain ⟨r, rd, h1, h2⟩ := vcLoad_pin h
      exact ⟨_, _, _, h1, fun ρ' H' K' he hs h' => by simp only [vcOp, he x (by simp [Op.operands]), hv]; exact h2 H' (fun r f => K' r [] f) hs h'⟩
    · exact h.elim
  | store t a x =>
    simp only [vcOp] at h
    split at h
    · rename_i v hv hv2
      obtain ⟨r, rd, h1, h2⟩ := vcStore_pin h
      exact ⟨_, _, _, h1, fun ρ' H' K' he hs h' => by simp only [vcOp, he x (by simp [Op.operands]), he a (by simp [Op.operands]), hv, hv2]; exact h2 H' (fun u f => K' _ u f) hs h'⟩
    · exact h.elim
  | nilCheck x =>
    simp only [vcOp] at h
    split at h <;> first
      | exact h.elim
      | (rename_i hv; exact ⟨_, _, _, h, fun ρ' H' K' he hs h' => by simp only [vcOp, he x (by simp [Op.operands]), hv]; exact h'⟩)
  | binOp op t x y z =>
    simp only [vcOp] at h
    split at h
    · rename_i hv hv2
      obtain ⟨r, h1, h2⟩ := vcBin_pin h
      exact ⟨_, _, _, h1, fun ρ' H' K' he hs h' => by simp only [vcOp, he x (by simp [Op.operands]), he y (by simp [Op.operands]), hv, hv2]; exact h2 (fun v => K' v [] []) h'⟩
    · exact h.elim
  | unOp op t x =>
    simp only [vcOp] at h
    split at h
    · rename_i hv
      obtain ⟨r, h1, h2⟩ := vcUn_pin h
      exact ⟨_, _, _, h1, fun ρ' H' K' he hs h' => by simp only [vcOp, he x (by simp [Op.operands]), hv]; exact h2 (fun v => K' v [] []) h'⟩
    · exact h.elim
  | makeFunc fn first caps =>
    cases fn with
    | func f =>
      simp only [vcOp] at h
      split at h
      · rename_i h1 h2
        exact ⟨_, _, _, h, fun ρ' H' K' he hs h' => by
          simp only [vcOp, h1]
          rw [mapM_congr (fun x hx => he x (by simp only [Op.operands, Array.mem_append]; exact .inr (by simpa using hx)))]
          simp only [h2]; exact h'⟩
      · exact h.elim
    | _ => exact h.elim
  | makeSlice t l c =>
    simp only [vcOp] at h
    split at h
    · rename_i hv hv2
      obtain ⟨r, u, rd, h1, h2⟩ := vcMakeSlice_pin h
      exact ⟨_, _, _, h1, fun ρ' H' K' he hs h' => by simp only [vcOp, he l (by simp [Op.operands]), he c (by simp [Op.operands]), hv, hv2]; exact h2 K' h'⟩
    · exact h.elim
  | slice t x lo hi mx =>
    cases mx with
    | some m => exact h.elim
    | none =>
      simp only [vcOp] at h
      split at h
      · rename_i hv
        cases lo with
        | none =>
          cases hi with
          | none =>
            obtain ⟨r, h1, h2⟩ := vcSlice_pin h
            exact ⟨_, _, _, h1, fun ρ' H' K' he hs h' => by simp only [vcOp, he x (by simp [Op.operands]), hv]; exact h2 (fun v => K' v [] []) h'⟩
          | some b =>
            simp only at h
            split at h
            · rename_i hv2
              obtain ⟨r, h1, h2⟩ := vcSlice_pin h
              exact ⟨_, _, _, h1, fun ρ' H' K' he hs h' => by simp only [vcOp, he x (by simp [Op.operands]), he b (by simp [Op.operands]), hv, hv2]; exact h2 (fun v => K' v [] []) h'⟩
            · exact h.elim
        | some a =>
          cases hi with
          | none =>
            simp only at h
            split at h
            · rename_i hv2
              obtain ⟨r, h1, h2⟩ := vcSlice_pin h
              exact ⟨_, _, _, h1, fun ρ' H' K' he hs h' => by simp only [vcOp, he x (by simp [Op.operands]), he a (by simp [Op.operands]), hv, hv2]; exact h2 (fun v => K' v [] []) h'⟩
            · exact h.elim
          | some b =>
            simp only at h
            split at h
            · rename_i hv2 hv3
              obtain ⟨r, h1, h2⟩ := vcSlice_pin h
              exact ⟨_, _, _, h1, fun ρ' H' K' he hs h' => by simp only [vcOp, he x (by simp [Op.operands]), he a (by simp [Op.operands]), he b (by simp [Op.operands]), hv, hv2, hv3]; exact h2 (fun v => K' v [] []) h'⟩
            · exact h.elim
      · exact h.elim
  | fieldAddr s x f =>
    simp only [vcOp] at h
    split at h
    · rename_i hv
      obtain ⟨r, h1, h2⟩ := vcFieldAddr_pin h
      exact ⟨_, _, _, h1, fun ρ' H' K' he hs h' => by simp only [vcOp, he x (by simp [Op.operands]), hv]; exact h2 (fun v => K' v [] []) h'⟩
    · exact h.elim
  | field s x f =>
    simp only [vcOp] at h
    split at h
    · rename_i hv
      obtain ⟨r, h1, h2⟩ := vcField_pin h
      exact ⟨_, _, _, h1, fun ρ' H' K' he hs h' => by simp only [vcOp, he x (by simp [Op.operands]), hv]; exact h2 (fun v => K' v [] []) h'⟩
    · exact h.elim
  | indexAddr t x i =>
    simp only [vcOp] at h
    split at h
    · rename_i hv hv2
      obtain ⟨r, h1, h2⟩ := vcIndexAddr_pin h
      exact ⟨_, _, _, h1, fun ρ' H' K' he hs h' => by simp only [vcOp, he x (by simp [Op.operands]), he i (by simp [Op.operands]), hv, hv2]; exact h2 (fun v => K' v [] []) h'⟩
    · exact h.elim
  | extract x i =>
    simp only [vcOp] at h
    split at h
    · rename_i hv
      split at h
      · rename_i hv2
        exact ⟨_, _, _, h, fun ρ' H' K' he hs h' => by simp only [vcOp, he x (by simp [Op.operands]), hv, hv2]; exact h'⟩
      · exact h.elim
    · exact h.elim
  | call c =>
    obtain ⟨callee, args, ats⟩ := c
    cases callee with
    | builtin b =>
      have ho : ∀ {ρ' : Operand → Option AV}, (∀ x ∈ (Op.call ⟨.builtin b, args, ats⟩).operands, ρ' x = ρ x) → ∀ x ∈ args.toList, ρ' x = ρ x := fun he x hx => he x (by simpa [Op.operands, Call.operands] using hx)
      cases b with
      | len =>
        simp only [vcOp] at h
        split at h
        · rename_i x t h1 h2
          split at h
          · rename_i hv
            obtain ⟨r, h3, h4⟩ := vcLen_pin h
            exact ⟨_, _, _, h3, fun ρ' H' K' he hs h' => by simp only [vcOp, h1, h2, ho he x (by rw [h1]; simp), hv]; exact h4 (fun v => K' v [] []) h'⟩
          · exact h.elim
        · exact h.elim
      | append =>
        simp only [vcOp] at h
        split at h
        · rename_i s x t t2 h1 h2
          split at h
          · rename_i hv0 hv hv2
            obtain ⟨r, u, rd, h3, h4⟩ := vcAppend_pin h
            exact ⟨_, _, _, h3, fun ρ' H' K' he hs h' => by simp only [vcOp, h1, h2, ho he x (by rw [h1]; simp), ho he s (by rw [h1]; simp), hv0, hv, hv2]; exact h4 H' K' hs h'⟩
          · exact h.elim
        · exact h.elim
      | min =>
        simp only [vcOp] at h
        obtain ⟨r, h3, h4⟩ := vcMinMax_pin h
        exact ⟨_, _, _, h3, fun ρ' H' K' he hs h' => by simp only [vcOp]; rw [List.map_congr_left (ho he)]; exact h4 (fun v => K' v [] []) h'⟩
      | max =>
        simp only [vcOp] at h
        obtain ⟨r, h3, h4⟩ := vcMinMax_pin h
        exact ⟨_, _, _, h3, fun ρ' H' K' he hs h' => by simp only [vcOp]; rw [List.map_congr_left (ho he)]; exact h4 (fun v => K' v [] []) h'⟩
      | _ => exact h.elim
    | _ => exact h.elim
  | _ => exact h.elim

end
end Go.Cw
