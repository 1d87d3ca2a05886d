/-
  Cw, part M: operations that write or make memory.
-/
import Derived.Test.YtlhakdmenohdnaaCwG
import Derived.Laws.MakeOwn
import Derived.Laws.AppendOwn
namespace Go.Cw
set_option linter.unusedVariables false
section
variable {P : Program} {T : Tab} {I : Nat → Prop} {β : Beta} {w : World} {H : Heap}

/-- What an operation leaves. -/
def Left_ (I : Nat → Prop) (β : Beta) (w : World) (H : Heap) (r : AV) (u : Upd) (v : Value) (w' : World) (site : Nat) : Prop :=
  ∃ I' β', HSim I' β' (app H u) w' ∧ ARel I' β' w' r v ∧ Evo I β w I' β' w' ∧ ∀ s, β[s]? = some none → s ≠ site → β'[s]? = some none

theorem Left_.same (hH : HSim I β H w) {r : AV} {v : Value} {site : Nat} (hr : ARel I β w r v) : Left_ I β w H r [] v w site :=
  ⟨I, β, hH, hr, Evo.refl _ _ _, fun _ h _ => h⟩

/-- Cells of rows, as a block has them. -/
def BCells (I : Nat → Prop) (β : Beta) (w : World) (rows : Rows) (z : Nat) (c : Array Value) : Prop :=
  ∀ i j x, rowCell rows i j = some x → ∃ v, c[i * z + j]? = some v ∧ v.oneCell' = true ∧ ARel I β w x v

theorem new_obj (hH : HSim I β H w) {site : Nat} (hsite : β[site]? = some none) (ty z : Nat) (rows : Rows) (c : Array Value) (hw : rowsWide rows z) (hc : BCells I β w rows z c) {w' : World}
    (hw' : w' = w.alloc (.cells c ty) ∨ w' = w.drew.alloc (.cells c ty)) :
    HSim I (β.set site (some (w.heap.size, 0))) (H.set site (some ⟨ty, z, false, rows⟩)) w' ∧ Evo I β w I (β.set site (some (w.heap.size, 0))) w' := by
  have hnew : w'.heap[w.heap.size]? = some (.cells c ty (0, 0)) := by rcases hw' with rfl | rfl <;> exact heap_alloc_new _ _
  have hold : ∀ b, b < w.heap.size → w'.heap[b]? = w.heap[b]? := fun b hb => by
    rcases hw' with rfl | rfl
    · exact heap_alloc_old w _ hb
    · exact heap_alloc_old w.drew _ hb
  have hsz : w'.heap.size = w.heap.size + 1 := by rcases hw' with rfl | rfl <;> simp
  have hlt : site < β.length := by
    have := (List.getElem?_eq_some_iff.1 hsite).1; exact this
  have hpre : ∀ (i : Nat) b, β[i]? = some (some b) → (β.set site (some (w.heap.size, 0)))[i]? = some (some b) := fun i b hb => by
    by_cases h : site = i
    · subst h; rw [hsite] at hb; cases hb
    · rw [List.getElem?_set_ne h]; exact hb
  have hshape : ∀ b t n, w.shape? b = some (t, n) → w'.shape? b = some (t, n) := fun b t n hs => by
    have hb : b < w.heap.size := by
      rcases Nat.lt_or_ge b w.heap.size with h | h
      · exact h
      · simp [World.shape?, Array.getElem?_eq_none h] at hs
    simpa [World.shape?, hold b hb] using hs
  have hkI : ∀ b, I b → w'.heap[b]? = w.heap[b]? ∧ I b := fun b hb => ⟨hold b (hH.imm b hb), hb⟩
  refine ⟨⟨by simp [hH.len], fun i o ho => ?_, fun i j oi oj b b' hi hj hbi hbj hbb => ?_, fun b hb => ?_, fun i b hb => ?_⟩, ⟨?_, ?_, ?_, by omega, hpre, fun i b hb => ?_, fun b hb _ => hold b hb, hkI, fun b _ h => .inl h, hshape⟩⟩
  · by_cases h : site = i
    · subst h
      rw [List.getElem?_set_self (by rw [← hH.len]; exact hlt)] at ho
      injection ho with ho; injection ho with ho; subst ho
      refine ⟨(w.heap.size, 0), by rw [List.getElem?_set_self hlt], hw, ⟨(fun h => nomatch h), (fun h => absurd (hH.imm _ h) (Nat.lt_irrefl _))⟩, c, hnew, fun i j x hx => ?_⟩
      obtain ⟨v, hv, h1, hr⟩ := hc i j x hx
      exact ⟨v, hv, h1, hr.mono hkI hpre hshape⟩
    · rw [List.getElem?_set_ne h] at ho
      obtain ⟨b, hb, hos⟩ := hH.obj i o ho
      exact ⟨b, hpre i b hb, hos.mono hkI hpre hshape (hold b.1 (hH.lt i b hb)) (fun h => h)⟩
  · by_cases h1 : site = i
    · by_cases h2 : site = j
      · omega
      · subst h1
        rw [List.getElem?_set_self hlt] at hbi
        rw [List.getElem?_set_ne h2] at hbj
        injection hbi with hbi; injection hbi with hbi; subst hbi
        exact absurd (hH.lt _ _ hbj) (by simp only at hbb; omega)
    · by_cases h2 : site = j
      · subst h2
        rw [List.getElem?_set_self hlt] at hbj
        rw [List.getElem?_set_ne h1] at hbi
        injection hbj with hbj; injection hbj with hbj; subst hbj
        exact absurd (hH.lt _ _ hbi) (by simp only at hbb; omega)
      · rw [List.getElem?_set_ne h1] at hi hbi
        rw [List.getElem?_set_ne h2] at hj hbj
        exact hH.inj i j oi oj b b' hi hj hbi hbj hbb
  · exact Nat.lt_of_lt_of_le (hH.imm b hb) (by omega)
  · by_cases h : site = i
    · subst h
      rw [List.getElem?_set_self hlt] at hb
      injection hb with hb; injection hb with hb; subst hb; simp only; omega
    · rw [List.getElem?_set_ne h] at hb
      exact Nat.lt_of_lt_of_le (hH.lt i b hb) (by omega)
  · rcases hw' with rfl | rfl <;> rfl
  · rcases hw' with rfl | rfl <;> rfl
  · rcases hw' with rfl | rfl <;> rfl
  · by_cases h : site = i
    · subst h
      rw [List.getElem?_set_self hlt] at hb
      injection hb with hb; injection hb with hb; subst hb
      exact .inl (Nat.le_refl _)
    · rw [List.getElem?_set_ne h] at hb
      exact .inr ⟨i, b, hb, rfl⟩

theorem new_free {site s : Nat} {x : Option (Nat × Nat)} (h : β[s]? = some none) (hne : s ≠ site) : (β.set site x)[s]? = some none := by
  rw [List.getElem?_set_ne (fun e => hne e.symm)]; exact h

theorem box_cells {cs : List AV} {c : Array Value} (h : CRel I β w cs c) (h1 : ∀ u ∈ c.toList, u.oneCell' = true) {z : Nat} : BCells I β w (.box cs) z c := by
  intro i j x hx
  simp only [rowCell] at hx
  split at hx
  · rename_i hi; subst hi
    obtain ⟨v, hv, hr⟩ := h.2 j x hx
    refine ⟨v, by simpa using hv, h1 v ?_, hr⟩
    exact Array.mem_toList_iff.2 (Array.mem_of_getElem? hv)
  · cases hx

theorem new_box (hH : HSim I β H w) {site : Nat} (hsite : β[site]? = some none) (ty : Nat) {cs : List AV} {c : Array Value} (h : CRel I β w cs c) (h1 : ∀ u ∈ c.toList, u.oneCell' = true) :
    Left_ I β w H (.ptr site cs.length 0 0) [(site, some ⟨ty, cs.length, false, .box cs⟩)] (.pointer (some ⟨w.heap.size, 0, none⟩)) (w.alloc (.cells c ty)) site := by
  obtain ⟨a, b⟩ := new_obj hH hsite ty cs.length (.box cs) c rfl (box_cells h h1) (.inl rfl)
  refine ⟨I, _, a, ?_, b, fun s hs hne => new_free hs hne⟩
  have hlt : site < β.length := (List.getElem?_eq_some_iff.1 hsite).1
  have := ARel.ptr (I := I) (w := w.alloc (.cells c ty)) (z := cs.length) (row := 0) (col := 0) (id := site) (b := (w.heap.size, 0)) (β := β.set site (some (w.heap.size, 0))) (by rw [List.getElem?_set_self hlt])
  simpa using this

theorem run_box (t : TypeId) (v : Value) : (Instr.box t v).run P w = .ok (.pointer (some ⟨w.heap.size, 0, none⟩)) (w.alloc (.cells v.cells t)) := by
  simp [Instr.box, newVar, newRow]

theorem run_alloc {t : TypeId} {i : TypeInfo} {z : Value} (hi : P.info? t = some i) (hz : i.zero = some z) (old : Value) :
    (Instr.alloc t true old).run P w = .ok (.pointer (some ⟨w.heap.size, 0, none⟩)) (w.alloc (.cells z.cells t)) := by
  simp [Instr.alloc, zeroValue, typeInfo, hi, hz, newVar, newRow]

/-- A new slice of rows. -/
theorem new_slice (hH : HSim I β H w) {site : Nat} (hsite : β[site]? = some none) (ty z n cap : Nat) (rows : Rows) (c : Array Value) (hw : rowsWide rows z) (hc : BCells I β w rows z c)
    (hn : n ≤ cap) (hcap : cap ≤ maxLen) (hsz : c.size = cap * z) {w' : World} (hw' : w' = w.alloc (.cells c ty) ∨ w' = w.drew.alloc (.cells c ty)) :
    Left_ I β w H (.ms site z 0 n) [(site, some ⟨ty, z, false, rows⟩)] (.slice (some ⟨w.heap.size, 0, none⟩) n cap) w' site := by
  obtain ⟨a, b⟩ := new_obj hH hsite ty z rows c hw hc hw'
  refine ⟨I, _, a, ?_, b, fun s hs hne => new_free hs hne⟩
  have hlt : site < β.length := (List.getElem?_eq_some_iff.1 hsite).1
  have hnew : w'.heap[w.heap.size]? = some (.cells c ty (0, 0)) := by rcases hw' with rfl | rfl <;> exact heap_alloc_new _ _
  have := ARel.ms (I := I) (w := w') (z := z) (off := 0) (id := site) (b := (w.heap.size, 0)) (o := 0) (β := β.set site (some (w.heap.size, 0))) (by rw [List.getElem?_set_self hlt]) hn hcap (.inl (by simp)) ⟨ty, by
    simp only; rw [shape_of_heap hnew, hsz]; simp⟩
  exact this

/-- Rows written out one behind the other. -/
theorem purify_spec : ∀ {l : List AV} {ps : List PV}, purify l = some ps → l = pvs ps
  | [], ps, h => by simp [purify] at h; subst h; rfl
  | x :: l, ps, h => by
    cases x <;> simp only [purify] at h <;> try (cases h; done)
    rename_i p
    split at h
    · rename_i qs hq
      injection h with h; subst h
      simp [pvs, purify_spec hq]
    · cases h

theorem mkRows_go : ∀ {xs : List (List AV)} {ps : List (List PV)}, mkRows.go xs = some ps → xs = ps.map pvs
  | [], ps, h => by simp [mkRows.go] at h; subst h; rfl
  | r :: l, ps, h => by
    simp only [mkRows.go] at h
    split at h
    · rename_i p ps' h1 h2
      injection h with h; subst h
      simp [purify_spec h1, mkRows_go h2]
    · cases h

theorem rowCell_p (xs : List (List PV)) (i j : Nat) : rowCell (.p xs) i j = rowCell (.m (xs.map pvs)) i j := by
  simp only [rowCell, List.getElem?_map]
  cases xs[i]? with
  | none => rfl
  | some r =>
    simp only [Option.bind_some, Option.map_some]
    induction r generalizing j with
    | nil => simp [pvs]
    | cons p r ih => cases j <;> simp [pvs, ih]

theorem rowCell_mk (xs : List (List AV)) (i j : Nat) : rowCell (mkRows xs) i j = rowCell (.m xs) i j := by
  unfold mkRows
  split
  · rename_i ps h
    rw [rowCell_p, ← mkRows_go h]
  · rfl

theorem rowsWide_mk {xs : List (List AV)} {z : Nat} (h : rowsWide (.m xs) z) : rowsWide (mkRows xs) z := by
  unfold mkRows
  split
  · rename_i ps hp
    have e := mkRows_go hp
    intro i r hr
    have := h i (pvs r) (by rw [e]; simp [hr])
    simpa [pvs_length] using this
  · exact h

/-- The cells of a list of rows. -/
def flatV (f : Nat → List Value) (n : Nat) : List Value := (List.range n).flatMap f

theorem flatV_length {f : Nat → List Value} {z : Nat} : ∀ {n : Nat}, (∀ i, i < n → (f i).length = z) → (flatV f n).length = n * z
  | 0, _ => by simp [flatV]
  | n + 1, h => by
    have ih := flatV_length (n := n) (fun i hi => h i (by omega))
    simp only [flatV] at ih
    simp only [flatV, List.range_succ, List.flatMap_append, List.length_append, ih, List.flatMap_cons, List.flatMap_nil, List.append_nil, h n (by omega), Nat.succ_mul]

theorem flatV_get {f : Nat → List Value} {z : Nat} : ∀ {n : Nat}, (∀ i, i < n → (f i).length = z) → ∀ i j, i < n → j < z → (flatV f n)[i * z + j]? = (f i)[j]?
  | 0, _, i, j, hi, _ => by omega
  | n + 1, h, i, j, hi, hj => by
    have ih := flatV_get (n := n) (fun i hi => h i (by omega))
    have hl := flatV_length (n := n) (fun i hi => h i (by omega))
    have e : flatV f (n + 1) = flatV f n ++ f n := by simp [flatV, List.range_succ]
    rw [e]
    by_cases hn : i < n
    · have hlt : i * z + j < n * z := by
        have := Nat.mul_le_mul_right z (show i + 1 ≤ n from hn)
        rw [Nat.succ_mul] at this; omega
      rw [List.getElem?_append_left (by rw [hl]; exact hlt)]
      exact ih i j hn hj
    · have : i = n := by omega
      subst this
      rw [List.getElem?_append_right (by rw [hl]; omega), hl]
      congr 1; omega

/-- What append reads: m rows of z cells each at an address, with the values of 'rows'. -/
structure Src (I : Nat → Prop) (β : Beta) (w : World) (rows : Rows) (z m : Nat) (v : Value) (news : List Value) : Prop where
  len : news.length = m * z
  form : (∃ c, v = .slice none 0 c ∧ m = 0) ∨ ∃ a c, v = .slice (some a) m c ∧ ∀ (k : Nat) u, news[k]? = some u → w.cell? (a.add k) = some u
  one : ∀ u ∈ news, u.oneCell' = true
  cell : ∀ i j x, rowCell rows i j = some x → ∃ u, news[i * z + j]? = some u ∧ u.oneCell' = true ∧ ARel I β w x u
  wide : rowsWide rows z
  rl : rowsLen rows = m

end
end Go.Cw
