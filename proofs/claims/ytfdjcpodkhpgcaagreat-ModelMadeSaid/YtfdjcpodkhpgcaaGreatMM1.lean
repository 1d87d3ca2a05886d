/-
  Part 1 of the proof (CwTF): what later parts use. No conditions.
-/
import Derived.Test.YtfdjcpodkhpgcaaGreatMB4

/-
  Rows and slices of which only the kind is known: what a call hands back is some data of a type.
-/
namespace Go.Cw
set_option linter.unusedVariables false
section
variable {α : Type} {f : α → List PV} {q : α → Prop} {rows rows2 : List (List PV)} {r : List PV} {z n : Nat} {p : PV}

/-- A row of such data. -/
def RowOf (f : α → List PV) (q : α → Prop) (r : List PV) : Prop := ∃ x, q x ∧ PLeL r (f x)
def RowsOf (f : α → List PV) (q : α → Prop) (rows : List (List PV)) : Prop := ∃ l : List α, (∀ x ∈ l, q x) ∧ PLeLL rows (l.map f)
/-- A slice of at most n such rows. -/
def SlOf (z : Nat) (f : α → List PV) (q : α → Prop) (n : Nat) (p : PV) : Prop := ∃ l : List α, l.length ≤ n ∧ (∀ x ∈ l, q x) ∧ PLe p (.sl z (l.map f))

theorem RowOf.mk {x : α} (hx : q x) (h : PLeL r (f x)) : RowOf f q r := ⟨x, hx, h⟩
theorem RowsOf.nil : RowsOf f q [] := ⟨[], by simp, trivial⟩
theorem RowsOf.map {l : List α} (h : ∀ x ∈ l, q x) : RowsOf f q (l.map f) := ⟨l, h, PLeLL.refl⟩
theorem RowsOf.cons (h : RowOf f q r) (t : RowsOf f q rows) : RowsOf f q (r :: rows) := by
  obtain ⟨x, hx, h1⟩ := h
  obtain ⟨l, hl, h2⟩ := t
  exact ⟨x :: l, by simpa using ⟨hx, hl⟩, h1, h2⟩
theorem PLeLL.app : ∀ {a b c d : List (List PV)}, PLeLL a c → PLeLL b d → PLeLL (a ++ b) (c ++ d)
  | [], _, [], _, _, h => h
  | x :: a, b, y :: c, d, h, k => ⟨h.1, PLeLL.app h.2 k⟩
  | [], _, _ :: _, _, h, _ => h.elim
  | _ :: _, _, [], _, h, _ => h.elim
theorem PLeLL.take' : ∀ {n : Nat} {a c : List (List PV)}, PLeLL a c → PLeLL (a.take n) (c.take n)
  | 0, _, _, _ => by simp only [List.take_zero]; exact trivial
  | n + 1, [], [], _ => trivial
  | n + 1, x :: a, y :: c, h => ⟨h.1, PLeLL.take' (n := n) h.2⟩
  | n + 1, [], _ :: _, h => h.elim
  | n + 1, _ :: _, [], h => h.elim
theorem PLeLL.drop' : ∀ {n : Nat} {a c : List (List PV)}, PLeLL a c → PLeLL (a.drop n) (c.drop n)
  | 0, _, _, h => h
  | n + 1, [], [], _ => trivial
  | n + 1, x :: a, y :: c, h => PLeLL.drop' (n := n) h.2
  | n + 1, [], _ :: _, h => h.elim
  | n + 1, _ :: _, [], h => h.elim
theorem RowsOf.app (h : RowsOf f q rows) (t : RowsOf f q rows2) : RowsOf f q (rows ++ rows2) := by
  obtain ⟨l, hl, h1⟩ := h
  obtain ⟨m, hm, h2⟩ := t
  refine ⟨l ++ m, fun x hx => ?_, by rw [List.map_append]; exact h1.app h2⟩
  rcases List.mem_append.1 hx with g | g
  · exact hl x g
  · exact hm x g
theorem RowsOf.take (h : RowsOf f q rows) : RowsOf f q (rows.take n) := by
  obtain ⟨l, hl, h1⟩ := h
  exact ⟨l.take n, fun x hx => hl x (List.mem_of_mem_take hx), by rw [List.map_take]; exact h1.take'⟩
theorem RowsOf.drop (h : RowsOf f q rows) : RowsOf f q (rows.drop n) := by
  obtain ⟨l, hl, h1⟩ := h
  exact ⟨l.drop n, fun x hx => hl x (List.mem_of_mem_drop hx), by rw [List.map_drop]; exact h1.drop'⟩
theorem RowsOf.rep (h : RowOf f q r) : ∀ {n : Nat}, RowsOf f q (List.replicate n r)
  | 0 => RowsOf.nil
  | n + 1 => RowsOf.cons h (RowsOf.rep h)
theorem RowsOf.set (h : RowsOf f q rows) (k : RowOf f q r) : ∀ {n : Nat}, RowsOf f q (rows.set n r) := fun {n} => by
  obtain ⟨l, hl, h1⟩ := h
  obtain ⟨x, hx, h2⟩ := k
  refine ⟨l.set n x, fun y hy => ?_, ?_⟩
  · rcases List.mem_or_eq_of_mem_set hy with g | g
    · exact hl y g
    · rw [g]; exact hx
  · clear hl
    induction rows generalizing l n with
    | nil => cases l with
      | nil => simp only [List.set_nil]; exact h1
      | cons => exact h1.elim
    | cons a rows ih => cases l with
      | nil => exact h1.elim
      | cons b l =>
        cases n with
        | zero => exact ⟨h2, h1.2⟩
        | succ n => exact ⟨h1.1, ih l h1.2⟩
theorem RowsOf.len {l : List α} (h : PLeLL rows (l.map f)) : l.length = rows.length := by
  have := h.spec.1
  simpa using this
theorem SlOf.sl (h : RowsOf f q rows) (hn : rows.length ≤ n) : SlOf z f q n (.sl z rows) := by
  obtain ⟨l, hl, h1⟩ := h
  exact ⟨l, by rw [RowsOf.len h1]; exact hn, hl, PLe.sl h1⟩
theorem SlOf.nil : SlOf z f q n (.val (.slice none 0 0)) := ⟨[], Nat.zero_le _, by simp, PLe.nil⟩
theorem SlOf.cell (h : SlOf z f q n p) : ∃ l : List α, l.length ≤ n ∧ (∀ x ∈ l, q x) ∧ PLe p (.sl z (l.map f)) := h
end
theorem ALe.pvs : ∀ {l m : List PV}, PLeL l m → ALeL (pvs l) (pvs m)
  | [], [], _ => trivial
  | x :: l, y :: m, h => ⟨ALe.pv h.1, ALe.pvs h.2⟩
  | [], _ :: _, h => h.elim
  | _ :: _, [], h => h.elim
/-- Cells of an object, and what they lead to, become pure values: nobody writes any more what they lead to. -/
theorem Ghost.shutM {n nh : Nat} {Γ : Slots} {H : Heap} {i : Nat} {o : AObj} {rows' : Rows} (ids : List Nat) (hi : H[i]? = some (some o)) (hw : rowsWide o.rows o.z → rowsWide rows' o.z) (hm : ∀ c t, memOf rows' c t = memOf o.rows c t)
    (hcell : ∀ (r j : Nat) u, rowCell rows' r j = some u → rowCell o.rows r j = some u ∨ ∃ x y, rowCell o.rows r j = some x ∧ conv H x = some y ∧ ok1 H x ∧ ALe y u ∧ ∀ id ∈ ids1 H x, id ∈ ids) (hl : ∀ id ∈ ids, ∃ o, H[id]? = some (some o)) (hn : i ∉ ids) :
    Ghost n nh Γ H Γ ((app H (frz H ids)).set i (some { o with rows := rows' })) := fun I0 β0 w0 a w _ ⟨I, β, hs⟩ => by
  let J : Nat → Prop := fun b => I b ∨ ∃ id ∈ ids, ∃ c, β[id]? = some (some c) ∧ c.1 = b
  have hH := hs.h
  have hIJ : ∀ b, I b → J b := fun b h => .inl h
  have hJlt : ∀ b, J b → b < w.heap.size := fun b h => by
    rcases h with h | ⟨id, _, c, h, rfl⟩
    · exact hH.imm b h
    · exact hH.lt id c h
  have hkI : ∀ b, I b → w.heap[b]? = w.heap[b]? ∧ J b := fun b hb => ⟨rfl, hIJ b hb⟩
  have hget := frz_get ids H H (fun i ⟨o, ho⟩ => ⟨o, ho, .inl ho⟩)
  have hmono : ∀ {x : AV} {v : Value}, ARel I β w x v → ARel J β w x v := fun h => h.mono hkI (fun _ _ h => h) (fun _ _ _ h => h)
  have hfz : ∀ (k : Nat) o b, H[k]? = some (some o) → β[k]? = some (some b) → k ∉ ids → (o.fz = true ↔ I b.1) → (o.fz = true ↔ J b.1) := fun k o b ho hb hk h2 => by
    refine ⟨fun e => hIJ b.1 (h2.1 e), fun hI => h2.2 ?_⟩
    rcases hI with h | ⟨id, hid, c', h, hc'⟩
    · exact h
    · exfalso
      obtain ⟨oid, hoid⟩ := hl id hid
      exact hk (hH.inj id k oid o c' b hoid ho h hb hc' ▸ hid)
  have live : ∀ (k : Nat) (o2 : AObj), ((app H (frz H ids)).set i (some { o with rows := rows' }))[k]? = some (some o2) → ∃ o, H[k]? = some (some o) := fun k o2 h => by
    rw [List.getElem?_set] at h
    split at h
    · rename_i e; subst e; exact ⟨_, hi⟩
    · rw [hget k] at h
      cases hHk : H[k]? with
      | none => simp [hHk] at h
      | some oo => cases oo with
        | none => simp [hHk] at h
        | some o => exact ⟨o, rfl⟩
  refine ⟨J, β, ⟨by rw [List.length_set, app_length]; exact hH.len, fun k o2 ho2 => ?_, fun k j oi oj b b' h1 h2 hbi hbj hbb => ?_, hJlt, hH.lt⟩, hs.defers, hs.size, fun t z hz => hmono (hs.slot _ _ hz),
    ⟨hs.evo.os, hs.evo.tape, hs.evo.output, hs.evo.size, hs.evo.pre, hs.evo.fresh, hs.evo.keep, fun b hb => ⟨(hs.evo.keepI b hb).1, hIJ b (hs.evo.keepI b hb).2⟩, fun b hb hJ => ?_, hs.evo.shape⟩, hs.free⟩
  · rw [List.getElem?_set] at ho2
    by_cases e : i = k
    · subst e
      rw [if_pos rfl] at ho2
      split at ho2
      · injection ho2 with ho2; injection ho2 with ho2; subst ho2
        obtain ⟨b, hb, h1, h2, cc, h3, h4⟩ := hH.obj i _ hi
        refine ⟨b, hb, hw h1, hfz i o b hi hb hn h2, cc, by rw [hm]; exact h3, fun r j u hu => ?_⟩
        rcases hcell r j u hu with h | ⟨x, y, h, hc, hok, hle, hsub⟩
        · obtain ⟨v, g1, g2, g3⟩ := h4 r j u h
          exact ⟨v, g1, g2, hmono g3⟩
        · obtain ⟨v, g1, g2, g3⟩ := h4 r j x h
          exact ⟨v, g1, g2, hle _ _ _ _ (conv_sound hH hIJ hc hok g3 (fun id hid b hb => .inr ⟨id, hsub id hid, b, hb, rfl⟩))⟩
      · cases ho2
    · rw [if_neg e, hget k] at ho2
      cases hHk : H[k]? with
      | none => simp [hHk] at ho2
      | some oo =>
        cases oo with
        | none => simp [hHk] at ho2
        | some o =>
          obtain ⟨b, hb, h1, h2, cc, h3, h4⟩ := hH.obj k o hHk
          refine ⟨b, hb, ?_⟩
          simp only [hHk] at ho2
          have hcells : ∀ i j x, rowCell o.rows i j = some x → ∃ v, cc[(i + b.2) * o.z + j]? = some v ∧ v.oneCell' = true ∧ ARel J β w x v := fun i j x hx => by
            obtain ⟨v, hv, h5, h6⟩ := h4 i j x hx
            exact ⟨v, hv, h5, hmono h6⟩
          by_cases hk : k ∈ ids
          · rw [if_pos hk] at ho2
            injection ho2 with ho2; injection ho2 with ho2; subst ho2
            exact ⟨h1, ⟨fun _ => .inr ⟨k, hk, b, hb, rfl⟩, fun _ => rfl⟩, cc, h3, hcells⟩
          · rw [if_neg hk] at ho2
            injection ho2 with ho2; injection ho2 with ho2; subst ho2
            exact ⟨h1, hfz k o b hHk hb hk h2, cc, h3, hcells⟩
  · obtain ⟨o1, k1⟩ := live k oi h1
    obtain ⟨o2, k2⟩ := live j oj h2
    exact hH.inj k j o1 o2 b b' k1 k2 hbi hbj hbb
  · rcases hJ with h | ⟨id, _, c, h, hc⟩
    · exact hs.evo.old b hb h
    · rcases hs.evo.fresh id c h with h2 | ⟨j, c', h2, h3⟩
      · omega
      · exact .inr ⟨j, c', h2, h3.trans hc⟩

/-- The pure cells of a row. -/
theorem cells_conv {H : Heap} {r0 : List AV} {p0 : List PV} (hc : mapO (convC H 5) r0 = some p0) (hok : andL (okC H 5) r0) (h1 : allOne r0 = true) : p0.length = r0.length ∧ ∀ (j : Nat) p, p0[j]? = some p → ∃ x, r0[j]? = some x ∧ conv H x = some (.pv p) ∧ ok1 H x ∧ ∀ id ∈ ids1 H x, id ∈ r0.flatMap (idsC H 5) := by
  induction r0 generalizing p0 with
  | nil => simp only [mapO, Option.some.injEq] at hc; subst hc; exact ⟨rfl, fun j p h => by simp at h⟩
  | cons x r0 ih =>
    simp only [mapO] at hc
    split at hc
    · rename_i y ys hx hys
      injection hc with hc; subst hc
      simp only [allOne, Bool.and_eq_true] at h1
      have hxo : okC H 5 x ∧ andL (okC H 5) r0 := by
        cases x <;> first | exact ⟨trivial, hok⟩ | exact hok
      obtain ⟨g1, g2⟩ := ih hys hxo.2 h1.2
      refine ⟨by simp [g1], fun j p hj => ?_⟩
      cases j with
      | zero =>
        simp at hj; subst hj
        refine ⟨x, rfl, ?_, ?_, ?_⟩
        · cases x <;> first | (simp only [conv, conv1, hx]; done) | (simp [oneCell] at h1; done)
        · cases x <;> first | exact hxo.1 | (simp [oneCell] at h1; done)
        · intro id hid
          refine List.mem_flatMap.2 ⟨x, by simp, ?_⟩
          cases x <;> first | exact hid | (simp [oneCell] at h1; done)
      | succ j =>
        obtain ⟨x', e1, e2, e3, e4⟩ := g2 j p (by simpa using hj)
        exact ⟨x', by simpa using e1, e2, e3, fun id hid => by rw [List.flatMap_cons]; exact List.mem_append.2 (.inr (e4 id hid))⟩
    · cases hc
/-- The last object that has rows of any cells. -/
def findM : Heap → Nat → Option Nat
  | [], _ => none
  | o :: l, i => match findM l (i + 1) with
    | some j => some j
    | none => match o with
      | some ⟨_, _, _, .m _⟩ => some i
      | _ => none
def notIn (i : Nat) (l : List Nat) : Bool := l.all fun j => !Nat.beq i j
theorem notIn_spec {i : Nat} {l : List Nat} (h : notIn i l = true) : i ∉ l := fun hm => by
  have := List.all_eq_true.1 h i hm
  simp at this
def liveL (H : Heap) (l : List Nat) : Bool := l.all fun i => match H[i]? with
  | some (some _) => true
  | _ => false
theorem liveL_spec {H : Heap} {l : List Nat} (h : liveL H l = true) : ∀ id ∈ l, ∃ o, H[id]? = some (some o) := fun id hid => by
  have := List.all_eq_true.1 h id hid
  split at this
  · rename_i o ho; exact ⟨o, ho⟩
  · cases this
section
variable {n nh : Nat} {Γ : Slots} {H : Heap} {i ty z : Nat} {fz : Bool} {xs : List (List PV)} {r0 : List AV} {p0 : List PV}
/-- Rows of pure cells but for the last row: all become pure. -/
theorem Ghost.pureL (hf : findM H 0 = some i) (hi : H[i]? = some (some ⟨ty, z, fz, .m (xs.map pvs ++ [r0])⟩)) (hc : mapO (convC H 5) r0 = some p0) (hok : andL (okC H 5) r0) (h1 : allOne r0 = true) (hl : liveL H (r0.flatMap (idsC H 5)) = true) (hn : notIn i (r0.flatMap (idsC H 5)) = true) :
    Ghost n nh Γ H Γ ((app H (frz H (r0.flatMap (idsC H 5)))).set i (some ⟨ty, z, fz, .p (xs ++ [p0])⟩)) := by
  obtain ⟨g1, g2⟩ := cells_conv hc hok h1
  refine Ghost.shutM (o := ⟨ty, z, fz, .m (xs.map pvs ++ [r0])⟩) _ hi (fun h k q hq => ?_) (fun c t => rfl) (fun k j u hu => ?_) (liveL_spec hl) (notIn_spec hn)
  · rcases Nat.lt_or_ge k xs.length with hk | hk
    · rw [List.getElem?_append_left hk] at hq
      have := h k (pvs q) (by rw [List.getElem?_append_left (by simpa using hk)]; simp [hq])
      rw [pvs_map, List.length_map] at this; exact this
    · rw [List.getElem?_append_right hk] at hq
      have h2 : k = xs.length := by
        rcases Nat.lt_or_ge (k - xs.length) 1 with g | g
        · omega
        · rw [List.getElem?_eq_none (by simpa using g)] at hq; cases hq
      subst h2
      simp at hq; subst hq
      have := h xs.length r0 (by rw [List.getElem?_append_right (by simp)]; simp)
      rw [g1]; exact this
  · rcases Nat.lt_or_ge k xs.length with hk | hk
    · left
      simp only [rowCell, List.getElem?_append_left hk, List.getElem?_append_left (show k < (xs.map pvs).length by simpa using hk), List.getElem?_map] at hu ⊢
      cases h : xs[k]? with
      | none => rw [h] at hu; simp at hu
      | some q => rw [h] at hu; simpa [pvs_map] using hu
    · rcases Nat.lt_or_ge (k - xs.length) 1 with g | g
      · obtain rfl : k = xs.length := by omega
        right
        simp only [rowCell, List.getElem?_append_right (Nat.le_refl _), List.getElem?_append_right (show (xs.map pvs).length ≤ xs.length by simp), List.length_map, Nat.sub_self, List.getElem?_cons_zero, Option.bind_some, Option.map_eq_some_iff] at hu ⊢
        obtain ⟨p, hp, rfl⟩ := hu
        obtain ⟨x, e1, e2, e3, e4⟩ := g2 j p hp
        exact ⟨x, _, e1, e2, e3, ALe.refl, e4⟩
      · exfalso
        simp only [rowCell] at hu
        rw [List.getElem?_eq_none (by simp; omega)] at hu
        simp at hu
/-- The same of the first row. -/
theorem Ghost.pure0 (hf : findM H 0 = some i) (hi : H[i]? = some (some ⟨ty, z, fz, .m (r0 :: xs.map pvs)⟩)) (hc : mapO (convC H 5) r0 = some p0) (hok : andL (okC H 5) r0) (h1 : allOne r0 = true) (hl : liveL H (r0.flatMap (idsC H 5)) = true) (hn : notIn i (r0.flatMap (idsC H 5)) = true) :
    Ghost n nh Γ H Γ ((app H (frz H (r0.flatMap (idsC H 5)))).set i (some ⟨ty, z, fz, .p (p0 :: xs)⟩)) := by
  obtain ⟨g1, g2⟩ := cells_conv hc hok h1
  refine Ghost.shutM (o := ⟨ty, z, fz, .m (r0 :: xs.map pvs)⟩) _ hi (fun h k q hq => ?_) (fun c t => rfl) (fun k j u hu => ?_) (liveL_spec hl) (notIn_spec hn)
  · cases k with
    | zero =>
      simp only [List.getElem?_cons_zero, Option.some.injEq] at hq
      subst hq
      rw [g1]; exact h 0 r0 rfl
    | succ k =>
      simp only [List.getElem?_cons_succ] at hq
      have := h (k + 1) (pvs q) (by simp [hq])
      rw [pvs_map, List.length_map] at this; exact this
  · cases k with
    | zero =>
      right
      simp only [rowCell, List.getElem?_cons_zero, Option.bind_some, Option.map_eq_some_iff] at hu ⊢
      obtain ⟨p, hp, rfl⟩ := hu
      obtain ⟨x, e1, e2, e3, e4⟩ := g2 j p hp
      exact ⟨x, _, e1, e2, e3, ALe.refl, e4⟩
    | succ k =>
      left
      simp only [rowCell, List.getElem?_cons_succ, List.getElem?_map] at hu ⊢
      cases h : xs[k]? with
      | none => rw [h] at hu; simp at hu
      | some q => rw [h] at hu; simpa [pvs_map] using hu
variable {P : Program} {T : Tab} {Q : Exit → Slots → Heap → Prop}
theorem retL (hf : findM H 0 = some i) (hi : H[i]? = some (some ⟨ty, z, fz, .m (xs.map pvs ++ [r0])⟩)) (hc : mapO (convC H 5) r0 = some p0) (hok : andL (okC H 5) r0) (h1 : allOne r0 = true) (hl : liveL H (r0.flatMap (idsC H 5)) = true) (hn : notIn i (r0.flatMap (idsC H 5)) = true)
    (h : xCode P T n nh .ret Q Γ ((app H (frz H (r0.flatMap (idsC H 5)))).set i (some ⟨ty, z, fz, .p (xs ++ [p0])⟩))) : xCode P T n nh .ret Q Γ H := ghost_ret (Ghost.pureL hf hi hc hok h1 hl hn) h
theorem ret0 (hf : findM H 0 = some i) (hi : H[i]? = some (some ⟨ty, z, fz, .m (r0 :: xs.map pvs)⟩)) (hc : mapO (convC H 5) r0 = some p0) (hok : andL (okC H 5) r0) (h1 : allOne r0 = true) (hl : liveL H (r0.flatMap (idsC H 5)) = true) (hn : notIn i (r0.flatMap (idsC H 5)) = true)
    (h : xCode P T n nh .ret Q Γ ((app H (frz H (r0.flatMap (idsC H 5)))).set i (some ⟨ty, z, fz, .p (p0 :: xs)⟩))) : xCode P T n nh .ret Q Γ H := ghost_ret (Ghost.pure0 hf hi hc hok h1 hl hn) h
end
end Go.Cw
