/-
  Cw, part PA: what an operation of a statement that draws does, wherever its footprint is the same.
-/
import Derived.Test.YtlhakdmenohdnaaCwZ
namespace Go.Cw
set_option linter.unusedVariables false
set_option linter.unusedSimpArgs false
section
variable {P : Program} {T : Tab} {n nh : Nat}

theorem evF_same {g g' : Nat → Option AV} {ops : Array Oper} {o : Oper} (h : ∀ s ∈ o.looksAt ops, g' s = g s) : ∀ x ∈ o.op.operands, evF g' x = evF g x := fun x hx => by
  cases x with
  | tmp t => exact h t (List.mem_append_left _ (List.mem_filterMap.2 ⟨.tmp t, by simpa using hx, rfl⟩))
  | _ => rfl

/-- A guard is decided wherever what it looks at is the same. -/
theorem vcGuard_dec {ops : Array Oper} {g : Nat → Option AV} {Γ : Slots} (hg : get Γ = g) {dc : Known} (hk : KnOk dc g) {o : Oper} {run skip : Known → Prop} (h : vcGuard ops.toList Γ dc o.guard run skip) :
    ∃ b : Bool, (∀ (g' : Nat → Option AV) (a : Act) (I : Nat → Prop) (β : Beta) (w : World), (∀ s ∈ o.looksAt ops, g' s = g s) → (∀ s x, g' s = some x → ARel I β w x (a.tmps.getD s undef)) → Region.wanted o (yielded ops a.tmps) = b) ∧
      ∃ dc', KnOk dc' g ∧ if b then run dc' else skip dc' := by
  have use : ∀ {dc' : Known} {b : Bool}, KnOk dc' g → (if b then run dc' else skip dc') → (∀ (a : Act) (I : Nat → Prop) (β : Beta) (w : World) (g' : Nat → Option AV), (∀ s ∈ o.looksAt ops, g' s = g s) → (∀ s x, g' s = some x → ARel I β w x (a.tmps.getD s undef)) → Region.wanted o (yielded ops a.tmps) = b) → _ :=
    fun {dc' b} h1 h2 h3 => (⟨b, fun g' a I β w hs hr => h3 a I β w g' hs hr, dc', h1, h2⟩ : ∃ b : Bool, (∀ (g' : Nat → Option AV) (a : Act) (I : Nat → Prop) (β : Beta) (w : World), (∀ s ∈ o.looksAt ops, g' s = g s) → (∀ s x, g' s = some x → ARel I β w x (a.tmps.getD s undef)) → Region.wanted o (yielded ops a.tmps) = b) ∧
      ∃ dc', KnOk dc' g ∧ if b then run dc' else skip dc')
  unfold vcGuard at h
  split at h
  · rename_i hgd
    exact use (b := true) hk h fun a I β w g' _ _ => by simp [Region.wanted, hgd]
  · rename_i j want hgd
    split at h
    · rename_i o' ho'
      split at h
      · rename_i d hd
        have ho2 : ops[j]? = some o' := by simpa using ho'
        have hin : d ∈ o.looksAt ops := by
          simp [Oper.looksAt, hgd, ho2, hd]
        have wn : ∀ b : Bool, g d = some (vbool b) → ∀ (a : Act) (I : Nat → Prop) (β : Beta) (w : World) (g' : Nat → Option AV), (∀ s ∈ o.looksAt ops, g' s = g s) → (∀ s x, g' s = some x → ARel I β w x (a.tmps.getD s undef)) → Region.wanted o (yielded ops a.tmps) = (b == want) := fun b hb a I β w g' hsame hs => by
          have hv := val_inv (hs d _ ((hsame d hin).trans hb))
          have hlt : d < a.tmps.size := by
            rcases Nat.lt_or_ge d a.tmps.size with h | h
            · exact h
            · simp [Array.getD, Nat.not_lt.2 h, undef] at hv
          have h2 : a.tmps[d]? = some (.bool b) := by
            simp [hlt] at hv
            simp [hlt, hv]
          simp [Region.wanted, hgd, yielded, ho2, hd, h2]
        have cons : ∀ b : Bool, g d = some (vbool b) → KnOk ((d, b) :: dc) g := fun b hb s b' hs' => by
          simp only [kn] at hs'
          cases hbeq : Nat.beq d s
          · rw [hbeq] at hs'; exact hk s b' (by simpa using hs')
          · rw [hbeq] at hs'
            have := Nat.eq_of_beq_eq_true hbeq; subst this
            simp only [cond_true, Option.some.injEq] at hs'; subst hs'
            exact hb
        split at h
        · rename_i b hkn
          have hb := hk _ _ hkn
          split at h
          · exact use (b := true) hk h (wn _ hb)
          · exact use (b := true) hk h (wn _ hb)
          · rename_i hne1 hne2
            refine use (b := false) hk h fun a I β w g' h1 h2 => ?_
            rw [wn _ hb a I β w g' h1 h2]
            cases b <;> cases want <;> first | rfl | exact absurd rfl (hne1 · rfl) | exact absurd rfl (hne2 · rfl)
        · split at h
          · rename_i b hb
            rw [hg] at hb
            have hb : g d = some (vbool b) := hb
            split at h
            · cases b
              · exact use (b := false) (cons _ hb) (h.2 rfl) (wn _ hb)
              · exact use (b := true) (cons _ hb) (h.1 rfl) (wn _ hb)
            · cases b
              · exact use (b := true) (cons _ hb) (h.1 rfl) (wn _ hb)
              · exact use (b := false) (cons _ hb) (h.2 rfl) (wn _ hb)
          · rename_i vs hb
            rw [hg] at hb
            refine use (b := false) hk h fun a I β w g' hsame hs => ?_
            have hv := val_inv (hs d _ ((hsame d hin).trans hb))
            have : yielded ops a.tmps j = none := by
              have h2 : a.tmps[d]? = some (.tuple vs) ∨ a.tmps[d]? = none := by
                rcases Nat.lt_or_ge d a.tmps.size with h | h
                · left; simp [h] at hv; simp [h, hv]
                · right; simp [h]
              rcases h2 with h2 | h2 <;> simp [yielded, ho2, hd, h2]
            simp [Region.wanted, hgd, this]
          · exact h.elim
      · exact h.elim
    · exact h.elim

/-! The pure form of a value depends on the objects that are read. -/
theorem flatMap_congr {α γ : Type} {f f' : α → List γ} : ∀ {l : List α}, (∀ x ∈ l, f' x = f x) → l.flatMap f' = l.flatMap f
  | [], _ => rfl
  | x :: l, h => by
    have ih : l.flatMap f' = l.flatMap f := flatMap_congr (fun y hy => h y (by simp [hy]))
    simp only [List.flatMap_cons, h x (by simp), ih]

theorem andL_congr {f f' : AV → Prop} : ∀ {l : List AV}, (∀ x ∈ l, f' x = f x) → andL f' l = andL f l
  | [], _ => rfl
  | .pv p :: l, h => by simp only [andL]; exact andL_congr (fun y hy => h y (by simp [hy]))
  | .agg cs :: l, h => by simp only [andL]; rw [h _ (by simp), andL_congr (fun y hy => h y (by simp [hy]))]
  | .ms .. :: l, h => by simp only [andL]; rw [h _ (by simp), andL_congr (fun y hy => h y (by simp [hy]))]
  | .ptr .. :: l, h => by simp only [andL]; rw [h _ (by simp), andL_congr (fun y hy => h y (by simp [hy]))]
  | .fn .. :: l, h => by simp only [andL]; rw [h _ (by simp), andL_congr (fun y hy => h y (by simp [hy]))]
  | .tup .. :: l, h => by simp only [andL]; rw [h _ (by simp), andL_congr (fun y hy => h y (by simp [hy]))]
  | .dead :: l, h => by simp only [andL]; rw [h _ (by simp), andL_congr (fun y hy => h y (by simp [hy]))]

theorem SameOn.sub {rd rd' : List Nat} {H H' : Heap} (h : SameOn rd H H') (hs : ∀ x ∈ rd', x ∈ rd) : SameOn rd' H H' := fun id hid => h id (hs id hid)

theorem same_convC {H H' : Heap} : ∀ (n : Nat) (x : AV), SameOn (rdsC H n x) H H' → convC H' n x = convC H n x ∧ (okC H' n x = okC H n x) ∧ idsC H' n x = idsC H n x
  | 0, x, h => by cases x <;> exact ⟨rfl, rfl, rfl⟩
  | n + 1, .pv p, h => ⟨rfl, rfl, rfl⟩
  | n + 1, .agg cs, h => ⟨rfl, rfl, rfl⟩
  | n + 1, .tup cs, h => ⟨rfl, rfl, rfl⟩
  | n + 1, .dead, h => ⟨rfl, rfl, rfl⟩
  | n + 1, .fn f caps, h => by
    have ih : ∀ x ∈ caps, convC H' n x = convC H n x ∧ (okC H' n x = okC H n x) ∧ idsC H' n x = idsC H n x := fun x hx =>
      same_convC n x (h.sub fun id hid => by simp only [rdsC, List.mem_flatMap]; exact ⟨x, hx, hid⟩)
    simp only [convC, okC, idsC]
    rw [mapO_congr (fun x hx => (ih x hx).1), andL_congr (fun x hx => (ih x hx).2.1), flatMap_congr (fun x hx => (ih x hx).2.2)]
    exact ⟨rfl, rfl, rfl⟩
  | n + 1, .ms id z off len, h => by
    have h0 : H'[id]? = H[id]? := h id (by simp only [rdsC]; split <;> simp)
    simp only [convC, okC, idsC, h0]
    cases hH : H[id]? with
    | none => exact ⟨rfl, rfl, rfl⟩
    | some oo => cases oo with
      | none => exact ⟨rfl, rfl, rfl⟩
      | some o =>
        obtain ⟨ty, oz, fz, rows⟩ := o
        cases rows with
        | box cs => refine ⟨?_, rfl, rfl⟩; simp only; cases Nat.beq oz z <;> rfl
        | p xs => refine ⟨?_, rfl, rfl⟩; simp only; cases Nat.beq oz z <;> rfl
        | m xs =>
          have ih : ∀ r ∈ (xs.drop off).take len, ∀ x ∈ r, convC H' n x = convC H n x ∧ (okC H' n x = okC H n x) ∧ idsC H' n x = idsC H n x := fun r hr x hx =>
            same_convC n x (h.sub fun i hi => by
              simp only [rdsC, hH, List.mem_cons, List.mem_flatMap]
              exact .inr ⟨r, hr, x, hx, hi⟩)
          refine ⟨?_, ?_, ?_⟩
          · have e : mapO (mapO (convC H' n)) ((xs.drop off).take len) = mapO (mapO (convC H n)) ((xs.drop off).take len) := mapO_congr (fun r hr => mapO_congr (fun x hx => (ih r hr x hx).1))
            simp only
            cases Nat.beq oz z
            · rfl
            · simp only [e]
          · simp only [eq_iff_iff]
            refine and_congr Iff.rfl (forall_congr' fun r => forall_congr' fun hr => ?_)
            rw [andL_congr (fun x hx => (ih r hr x hx).2.1)]
          · simp only
            rw [flatMap_congr (fun r hr => flatMap_congr (fun x hx => (ih r hr x hx).2.2))]
  | n + 1, .ptr id z row col, h => by
    have h0 : H'[id]? = H[id]? := h id (by simp only [rdsC]; split <;> simp)
    simp only [convC, okC, idsC, h0]
    cases hH : H[id]? with
    | none => exact ⟨rfl, rfl, rfl⟩
    | some oo => cases oo with
      | none => exact ⟨rfl, rfl, rfl⟩
      | some o =>
        obtain ⟨ty, oz, fz, rows⟩ := o
        cases rows with
        | m cs => exact ⟨by cases hz : Nat.beq oz z <;> simp only [hz], rfl, rfl⟩
        | p xs => exact ⟨by cases hz : Nat.beq oz z <;> simp only [hz], rfl, rfl⟩
        | box cs =>
          have ih : ∀ x ∈ cs.drop col, convC H' n x = convC H n x ∧ (okC H' n x = okC H n x) ∧ idsC H' n x = idsC H n x := fun x hx =>
            same_convC n x (h.sub fun i hi => by
              simp only [rdsC, hH, List.mem_cons, List.mem_flatMap]
              exact .inr ⟨x, hx, hi⟩)
          refine ⟨?_, ?_, ?_⟩
          · have e : mapO (convC H' n) (cs.drop col) = mapO (convC H n) (cs.drop col) := mapO_congr (fun x hx => (ih x hx).1)
            cases hz : Nat.beq oz z
            · simp only [hz]
            · cases row
              · simp only [hz, e]
              · simp only [hz]
          · simp only
            rw [andL_congr (fun x hx => (ih x hx).2.1)]
          · simp only
            rw [flatMap_congr (fun x hx => (ih x hx).2.2)]

theorem same_conv0 {H H' : Heap} (x : AV) (h : SameOn (rds0 H x) H H') : conv1 H' x = conv1 H x ∧ (ok0 H' x = ok0 H x) ∧ ids0 H' x = ids0 H x := by
  cases x with
  | agg cs =>
    have ih : ∀ x ∈ cs, _ := fun x hx => same_convC 5 x (h.sub fun id hid => by simp only [rds0, List.mem_flatMap]; exact ⟨x, hx, hid⟩)
    simp only [conv1, ok0, ids0]
    rw [mapO_congr (fun x hx => (ih x hx).1), andL_congr (fun x hx => (ih x hx).2.1), flatMap_congr (fun x hx => (ih x hx).2.2)]
    exact ⟨rfl, rfl, rfl⟩
  | _ =>
    simp only [rds0] at h
    obtain ⟨h1, h2, h3⟩ := same_convC 5 _ h
    simp only [conv1, ok0, ids0]
    rw [h1, h2, h3]
    exact ⟨rfl, rfl, rfl⟩

theorem same_conv {H H' : Heap} (x : AV) (h : SameOn (rds1 H x) H H') : conv H' x = conv H x ∧ (ok1 H' x = ok1 H x) ∧ ids1 H' x = ids1 H x := by
  cases x with
  | tup cs =>
    have ih : ∀ x ∈ cs, _ := fun x hx => same_conv0 x (h.sub fun id hid => by simp only [rds1, List.mem_flatMap]; exact ⟨x, hx, hid⟩)
    simp only [conv, ok1, ids1]
    rw [mapO_congr (fun x hx => (ih x hx).1), andL_congr (fun x hx => (ih x hx).2.1), flatMap_congr (fun x hx => (ih x hx).2.2)]
    exact ⟨rfl, rfl, rfl⟩
  | _ =>
    simp only [rds1] at h
    obtain ⟨h1, h2, h3⟩ := same_conv0 _ h
    simp only [conv, ok1, ids1]
    rw [h1, h2, h3]
    exact ⟨rfl, rfl, rfl⟩

end
end Go.Cw
