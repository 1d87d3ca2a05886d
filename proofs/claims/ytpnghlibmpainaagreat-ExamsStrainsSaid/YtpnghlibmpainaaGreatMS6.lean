/-
  Part 6 of the proof (BQ, S0, S1, S2, X0, X1, X2, X3, X5, X6, XN, X7, X8, X10, X10b, X11): what later parts use. No conditions.
-/
import Derived.Test.YtpnghlibmpainaaGreatMS5

/-
  Slices that grow by append, nil or not: they need no cases.
-/
namespace Go.Proofs.YtpnghlibmpainaaGreat.Cw
open Go Go.Cw Go.Proofs
set_option linter.unusedVariables false
theorem map_snoc {α β : Type} {f : α → β} {l : List α} {x : α} : (l ++ [x]).map f = l.map f ++ [f x] := by simp
section
variable {P : Program} {T : Tab} {id z ty : Nat} {rows : List (List PV)} {r : List PV}
theorem fv_sl {K : AV → Prop} (h : K (slP id z rows)) : forceV (slP id z rows) K := by
  cases rows <;> exact h
theorem fh_ob {l : Heap} {K : Heap → Prop} (h : forceH l fun l' => K (obP ty z rows :: l')) : forceH (obP ty z rows :: l) K := by
  rw [forceH_eq] at *
  exact h
theorem knOut_mono : ∀ (dc : Known) {d : Nat} (A B : Known → Prop), (∀ d2, A d2 → B d2) → knOut dc d A → knOut dc d B
  | [], d, A, B, hab, ha => hab _ ha
  | (k, bb) :: dc, d, A, B, hab, ha => by
    simp only [knOut] at ha ⊢
    split
    · rename_i hk; rw [hk] at ha; exact knOut_mono dc A B hab ha
    · rename_i hk; rw [hk] at ha; exact knOut_mono dc _ _ (fun d2 h2 => hab _ h2) ha
theorem st_len {site e size bytes : Nat} {agg : Bool} {zero : List PV} {s : Operand} {t : TypeId} {d : Tmp} {Γ : Slots} {H : Heap} {K : Slots → Heap → Prop} (hs : ev Γ s = some (slP id z rows)) (hl : Cw.look T t = some ⟨size, bytes, agg, .slice e, zero⟩)
    (h : K ((d, vint .i64 rows.length) :: Γ) H) :
    vcStep P T site (some d) (.call { callee := .builtin .len, args := #[s], argTypes := #[t] }) Γ H K := by
  cases rows with
  | nil =>
    simp only [vcStep, vcOp, hs, slP, nilA, vcLen, hl, putK, appK, eqv_eq, forceV]
    exact h
  | cons a l =>
    simp only [vcStep, vcOp, hs, slP, nilA, vcLen, hl, putK, appK, eqv_eq, forceV]
    exact h
/-- The operation len. -/
theorem o_len {n m site e size bytes : Nat} {agg : Bool} {zero : List PV} {s : Operand} {t : TypeId} {d : Tmp} {Γ : Slots} {H : Heap} {K : Slots → Heap → Prop} {o : Oper} {all l : List Oper} {dc : Known}
    (hop : o.op = .call { callee := .builtin .len, args := #[s], argTypes := #[t] }) (hg : o.guard = none) (hd : o.dst = some d) (hdn : Nat.blt d n = true) (hs : ev Γ s = some (slP id z rows)) (hl : Cw.look T t = some ⟨size, bytes, agg, .slice e, zero⟩) (hm : rows.length = m)
    (h : knOut dc d fun d2 => xOps P T n all l site K d2 ((d, vint .i64 m) :: Γ) H) :
    xOps P T n all (o :: l) site K dc Γ H := by
  subst hm
  refine ops_cons ?_
  have e1 : dstOk n o = true := by unfold dstOk; rw [hd]; exact hdn
  have e2 : isAlloc o.op = false := by rw [hop]; rfl
  rw [e1, e2]
  show vcGuard all Γ dc o.guard _ _
  rw [hg]
  simp only [vcGuard, knPut, hd, hop, knRes, simpOp]
  exact knOut_mono dc _ _ (fun d2 hh => st_len hs hl hh) h
theorem sl_app (a : List (List PV)) (x : List PV) : slP id z (a ++ [x]) = .ms id z 0 (a.length + 1) := by
  cases a with
  | nil => rfl
  | cons b l => simp [slP]
theorem ob_app (a : List (List PV)) (x : List PV) : obP ty z (a ++ [x]) = some ⟨ty, z, false, .p (a ++ [x])⟩ := by
  cases a <;> rfl
theorem app_none {H : Heap} {i site : Nat} {o : Option AObj} (h : H[i]? = some none) : app H [(i, none), (site, o)] = app H [(site, o)] := by
  have : H.set i none = H := by
    apply List.ext_getElem?
    intro k
    rw [List.getElem?_set]
    by_cases e : i = k
    · subst e
      obtain ⟨h1, h2⟩ := List.getElem?_eq_some_iff.1 h
      rw [if_pos rfl, if_pos h1, h]
    · simp [e]
  simp only [app, this]
/-- One row is appended. -/
theorem st_app {site idx b size bytes : Nat} {agg eagg fz : Bool} {zero ezero : List PV} {etk : TK} {s x : Operand} {t : TypeId} {d : Tmp} {Γ : Slots} {H : Heap} {K : Slots → Heap → Prop} (hs : ev Γ s = some (slP id z rows)) (hx : ev Γ x = some (.ms idx z 0 1)) (hl : Cw.look T t = some ⟨size, bytes, agg, .slice ty, zero⟩) (he : Cw.look T ty = some ⟨z, b, eagg, etk, ezero⟩) (hz : Nat.blt 0 z = true)
    (hi : H[idx]? = some (some ⟨ty, z, fz, .p [r]⟩)) (ho : H[id]? = some (obP ty z rows)) (hb : (rows.length + 1) * b ≤ 140737488355328) (hn : rows.length + 1 ≤ 9223372036854775807)
    (h : forceH (app H [(id, none), (site, some ⟨ty, z, false, .p (rows ++ [r])⟩)]) fun H2 => K ((d, .ms site z 0 (rows.length + 1)) :: Γ) H2) :
    vcStep P T site (some d) (.call { callee := .builtin .append, args := #[s, x], argTypes := #[t, t] }) Γ H K := by
  have hbq : Nat.beq t t = true := Nat.beq_refl t
  have hzz : Nat.beq z z = true := Nat.beq_refl z
  have hty : Nat.beq ty ty = true := Nat.beq_refl ty
  rw [forceH_eq] at h
  cases rows with
  | nil =>
    rw [app_none ho] at h
    simp only [vcStep, vcOp, hbq, hs, hx, vcAppend, hl, he, srcOk, hzz, hz, srcRows, hi, Bool.and_self, Bool.true_and, slP, nilA, eqv_eq, putK, forceV, appK, forceH_eq]
    refine ⟨rfl, by simpa [rowsLen] using hb, by simp [rowsLen], fun _ => ?_, fun e => by simp [rowsLen] at e⟩
    exact h
  | cons a l =>
    simp only [vcStep, vcOp, hbq, hs, hx, vcAppend, hl, he, srcOk, hzz, hz, srcRows, hi, ho, obP, Bool.and_self, Bool.true_and, slP, eqv_eq, putK, forceV, appK, forceH_eq, Bool.not_false, hty, dropR, catRows, List.drop_zero]
    refine ⟨by simp [rowsLen], rfl, by simpa [rowsLen] using hb, by simpa [rowsLen] using hn, ?_⟩
    have e : rowsLen (.p (a :: l ++ List.take 1 [r])) = (a :: l).length + 1 := by simp [rowsLen]
    rw [e]
    exact h
/-- The operation that appends one row. -/
theorem o_app {n site idx b size bytes : Nat} {agg eagg fz : Bool} {zero ezero : List PV} {etk : TK} {s x : Operand} {t : TypeId} {d : Tmp} {Γ : Slots} {H : Heap} {K : Slots → Heap → Prop} {o : Oper} {all l : List Oper} {dc : Known}
    (hop : o.op = .call { callee := .builtin .append, args := #[s, x], argTypes := #[t, t] }) (hg : o.guard = none) (hd : o.dst = some d) (hdn : Nat.blt d n = true) (hs : ev Γ s = some (slP id z rows)) (hx : ev Γ x = some (.ms idx z 0 1)) (hl : Cw.look T t = some ⟨size, bytes, agg, .slice ty, zero⟩) (he : Cw.look T ty = some ⟨z, b, eagg, etk, ezero⟩) (hz : Nat.blt 0 z = true)
    (hi : H[idx]? = some (some ⟨ty, z, fz, .p [r]⟩)) (ho : H[id]? = some (obP ty z rows)) (hb : (rows.length + 1) * b ≤ 140737488355328) (hn : rows.length + 1 ≤ 9223372036854775807)
    (h : knOut dc d fun d2 => forceH (app H [(id, none), (site, some ⟨ty, z, false, .p (rows ++ [r])⟩)]) fun H2 => xOps P T n all l (site + 1) K d2 ((d, .ms site z 0 (rows.length + 1)) :: Γ) H2) :
    xOps P T n all (o :: l) site K dc Γ H := by
  refine ops_cons ?_
  have e1 : dstOk n o = true := by unfold dstOk; rw [hd]; exact hdn
  have e2 : isAlloc o.op = true := by rw [hop]; rfl
  rw [e1, e2]
  show vcGuard all Γ dc o.guard _ _
  rw [hg]
  simp only [vcGuard, knPut, hd, hop, knRes, simpOp]
  have key : ∀ d2, (forceH (app H [(id, none), (site, some ⟨ty, z, false, .p (rows ++ [r])⟩)]) fun H2 => xOps P T n all l (site + 1) K d2 ((d, .ms site z 0 (rows.length + 1)) :: Γ) H2) → vcStep P T site (some d) (.call { callee := .builtin .append, args := #[s, x], argTypes := #[t, t] }) Γ H (xOps P T n all l (site + 1) K d2) := fun d2 hh =>
    st_app hs hx hl he hz hi ho hb hn hh
  have mono : ∀ (dc : Known) (A B : Known → Prop), (∀ d2, A d2 → B d2) → knOut dc d A → knOut dc d B := by
    intro dc
    induction dc with
    | nil => intro A B hab ha; exact hab _ ha
    | cons q dc ih =>
      obtain ⟨k, bb⟩ := q
      intro A B hab ha
      simp only [knOut] at ha ⊢
      split
      · rename_i hk; rw [hk] at ha; exact ih A B hab ha
      · rename_i hk; rw [hk] at ha; exact ih _ _ (fun d2 h2 => hab _ h2) ha
  exact mono dc _ _ key h
theorem st_appD {site idx b size bytes : Nat} {agg eagg fz : Bool} {zero ezero : List PV} {etk : TK} {s x : Operand} {t : TypeId} {d : Tmp} {Γ : Slots} {H : Heap} {K : Slots → Heap → List Nat × List Nat → Prop} (hs : ev Γ s = some (slP id z rows)) (hx : ev Γ x = some (.ms idx z 0 1)) (hl : Cw.look T t = some ⟨size, bytes, agg, .slice ty, zero⟩) (he : Cw.look T ty = some ⟨z, b, eagg, etk, ezero⟩) (hz : Nat.blt 0 z = true)
    (hi : H[idx]? = some (some ⟨ty, z, fz, .p [r]⟩)) (ho : H[id]? = some (obP ty z rows)) (hb : (rows.length + 1) * b ≤ 140737488355328) (hn : rows.length + 1 ≤ 9223372036854775807)
    (h : (forceH (app H [(id, none), (site, some ⟨ty, z, false, .p (rows ++ [r])⟩)]) fun H2 => K ((d, .ms site z 0 (rows.length + 1)) :: Γ) H2 ([idx], [site])) ∧ forceH (app H [(id, none), (site, some ⟨ty, z, false, .p (rows ++ [r])⟩)]) fun H2 => K ((d, .ms site z 0 (rows.length + 1)) :: Γ) H2 ([id, idx], [id, site])) :
    vcStepD P T site (some d) (.call { callee := .builtin .append, args := #[s, x], argTypes := #[t, t] }) Γ H K := by
  have hbq : Nat.beq t t = true := Nat.beq_refl t
  have hzz : Nat.beq z z = true := Nat.beq_refl z
  have hty : Nat.beq ty ty = true := Nat.beq_refl ty
  simp only [forceH_eq] at h
  obtain ⟨h1, h2⟩ := h
  cases rows with
  | nil =>
    rw [app_none ho] at h1
    simp only [vcStepD, vcOp, hbq, hs, hx, vcAppend, hl, he, srcOk, hzz, hz, srcRows, hi, Bool.and_self, Bool.true_and, slP, nilA, eqv_eq, putK, forceV, appK, forceH_eq]
    refine ⟨rfl, by simpa [rowsLen] using hb, by simp [rowsLen], fun _ => ?_, fun e => by simp [rowsLen] at e⟩
    exact h1
  | cons a l =>
    simp only [vcStepD, vcOp, hbq, hs, hx, vcAppend, hl, he, srcOk, hzz, hz, srcRows, hi, ho, obP, Bool.and_self, Bool.true_and, slP, eqv_eq, putK, forceV, appK, forceH_eq, Bool.not_false, hty, dropR, catRows, List.drop_zero]
    refine ⟨by simp [rowsLen], rfl, by simpa [rowsLen] using hb, by simpa [rowsLen] using hn, ?_⟩
    have e : rowsLen (.p (a :: l ++ List.take 1 [r])) = (a :: l).length + 1 := by simp [rowsLen]
    rw [e]
    exact h2
/-- The same in a statement that draws its order. -/
theorem o_appD {n site idx b size bytes : Nat} {agg eagg fz : Bool} {zero ezero : List PV} {etk : TK} {s x : Operand} {t : TypeId} {d : Tmp} {Γ : Slots} {H : Heap} {KD : List (List Nat × List Nat) → Slots → Heap → Prop} {fs : List (List Nat × List Nat)} {o : Oper} {all l : List Oper} {dc : Known}
    (hop : o.op = .call { callee := .builtin .append, args := #[s, x], argTypes := #[t, t] }) (hg : o.guard = none) (hd : o.dst = some d) (hdn : Nat.blt d n = true) (hs : ev Γ s = some (slP id z rows)) (hx : ev Γ x = some (.ms idx z 0 1)) (hl : Cw.look T t = some ⟨size, bytes, agg, .slice ty, zero⟩) (he : Cw.look T ty = some ⟨z, b, eagg, etk, ezero⟩) (hz : Nat.blt 0 z = true)
    (hi : H[idx]? = some (some ⟨ty, z, fz, .p [r]⟩)) (ho : H[id]? = some (obP ty z rows)) (hb : (rows.length + 1) * b ≤ 140737488355328) (hn : rows.length + 1 ≤ 9223372036854775807)
    (h : knOut dc d fun d2 => (forceH (app H [(id, none), (site, some ⟨ty, z, false, .p (rows ++ [r])⟩)]) fun H2 => xOpsD P T n all l (site + 1) KD (([idx], [site]) :: fs) d2 ((d, .ms site z 0 (rows.length + 1)) :: Γ) H2) ∧ forceH (app H [(id, none), (site, some ⟨ty, z, false, .p (rows ++ [r])⟩)]) fun H2 => xOpsD P T n all l (site + 1) KD (([id, idx], [id, site]) :: fs) d2 ((d, .ms site z 0 (rows.length + 1)) :: Γ) H2) :
    xOpsD P T n all (o :: l) site KD fs dc Γ H := by
  refine opsD_cons ?_
  have e1 : dstOk n o = true := by unfold dstOk; rw [hd]; exact hdn
  have e2 : isAlloc o.op = true := by rw [hop]; rfl
  rw [e1, e2]
  show vcGuard all Γ dc o.guard _ _
  rw [hg]
  simp only [vcGuard, knPut, hd, hop, knRes, simpOp]
  exact knOut_mono dc _ _ (fun d2 hh => st_appD hs hx hl he hz hi ho hb hn hh) h
theorem ren_sl {d : Nat} {rn : List Nat} : renC d rn (slP id z rows) = slP (rn.getD id d) z rows := by
  cases rows <;> simp [slP, nilA, renC]
theorem ren_get {d : Nat} {rn : List Nat} {Γ : Slots} {s : Nat} (h : get Γ s = some (slP (rn.getD id d) z rows)) : get Γ s = some (renC d rn (slP id z rows)) := by rw [ren_sl]; exact h
theorem kept_ob {H Hc : Heap} {d i : Nat} {rn l : List Nat} (h : H[i]? = some (obP ty z rows)) (hk : kept H d rn l Hc) : kept H d rn (i :: l) (obP ty z rows :: Hc) := by
  cases rows with
  | nil => exact hk
  | cons a l' => exact ⟨h, hk⟩
/-- A loop of which only the named slots are kept. -/
theorem loop_for {n nh : Nat} {a : Code} {Q : Exit → Slots → Heap → Prop} {Γ : Slots} {H : Heap} {X : Type} (g : X → Slots) (hp : X → Heap) (cond : X → Prop) (μ : X → Nat) (x0 : X) (h0 : cond x0) (he : Ghost n nh Γ H (g x0) (hp x0))
    (hb : ∀ x, cond x → forceH (hp x) fun H1 => xCode P T n nh a (thenQ (fun Γ' H' => ∃ x', cond x' ∧ μ x' < μ x ∧ Ghost n nh Γ' H' (g x') (hp x')) Q) (g x) H1) : xCode P T n nh (.loop a) Q Γ H := by
  refine code_loop (fun x => ⟨g x, hp x⟩) cond μ ⟨x0, h0, he⟩ fun x hx => ?_
  have := hb x hx
  rw [forceH_eq] at this
  exact this
/-- A box one of whose cells holds a slice that grows. -/
theorem kept_bx {H Hc : Heap} {d i : Nat} {rn l : List Nat} {ty' z' : Nat} {fz : Bool} {cs cs' : List AV} (e : renL d rn cs = cs') (h : H[i]? = some (some ⟨ty', z', fz, .box cs'⟩)) (hk : kept H d rn l Hc) : kept H d rn (i :: l) (some ⟨ty', z', fz, .box cs⟩ :: Hc) := by
  subst e
  exact ⟨h, hk⟩
/-- What a slice that grows hands back. -/
theorem conv_sl {H : Heap} (ho : H[id]? = some (obP ty z rows)) : ∃ r0, conv H (slP id z rows) = some r0 ∧ ok1 H (slP id z rows) ∧ ALe r0 (.pv (.sl z rows)) := by
  cases rows with
  | nil => exact ⟨_, rfl, trivial, ALe.pv PLe.nil⟩
  | cons a l =>
    refine ⟨.pv (.sl z (a :: l)), ?_, ?_, ALe.refl⟩
    · simp only [slP, conv, conv1, convC, ho, obP]
      simp
    · simp only [slP, ok1, ok0, okC, ho, obP]
      simp
/-- A slice in a slot that grows no more. -/
theorem ids_sl {H : Heap} (ho : H[id]? = some (obP ty z rows)) : ∀ i : Nat, i ≠ id → (app H (frz H (ids1 H (slP id z rows))))[i]? = H[i]? := fun i hne => by
  cases rows with
  | nil => rfl
  | cons a l =>
    have hi : ids1 H (slP id z (a :: l)) = [id] := by
      show idsC H 5 (.ms id z 0 (a :: l).length) = _
      simp only [idsC, ho, obP]; rfl
    rw [hi]
    simp only [frz, ho, obP, app]
    rw [List.getElem?_set, if_neg (fun e => hne e.symm)]
theorem subH_refl : ∀ H : Heap, subH H H
  | [] => trivial
  | none :: l => subH_refl l
  | some o :: l => ⟨rfl, subH_refl l⟩
theorem Ghost.sl {n nh s : Nat} {Γ Γ2 : Slots} {H H2 : Heap} (h : get Γ s = some (slP id z rows)) (ho : H[id]? = some (obP ty z rows))
    (k : ∀ H' : Heap, H'.length = H.length → (∀ i : Nat, i ≠ id → H'[i]? = H[i]?) → Ghost n nh ((s, .pv (.sl z rows)) :: Γ) H' Γ2 H2) : Ghost n nh Γ H Γ2 H2 := by
  obtain ⟨r0, h1, h2, h3⟩ := conv_sl ho
  have g1 := Ghost.freeze (n := n) (nh := nh) h h1 h2
  have g2 := Ghost.weak (n := n) (nh := nh) (Γ := (s, r0) :: Γ) (H := app H (frz H (ids1 H (slP id z rows)))) (s := s) (x := r0) (y := .pv (.sl z rows)) (by rw [get_cons, if_pos rfl]) h3
  have g3 : Ghost n nh ((s, .pv (.sl z rows)) :: (s, r0) :: Γ) (app H (frz H (ids1 H (slP id z rows)))) ((s, .pv (.sl z rows)) :: Γ) (app H (frz H (ids1 H (slP id z rows)))) := Ghost.le (fun t y hy => by
    rw [get_cons] at hy
    split at hy
    · rename_i e
      exact ⟨y, by rw [get_cons, if_pos e]; exact hy, ALe.refl⟩
    · rename_i e
      exact ⟨y, by rw [get_cons, if_neg e, get_cons, if_neg e]; exact hy, ALe.refl⟩) (subH_refl _)
  exact ((g1.trans g2).trans g3).trans (k _ (by rw [app_length]) (ids_sl ho))
/-- A slice in a cell of a box that grows no more. -/
theorem Ghost.shut_sl {n nh i c ty' z' : Nat} {fz : Bool} {cs : List AV} {Γ Γ2 : Slots} {H H2 : Heap} (hi : H[i]? = some (some ⟨ty', z', fz, .box cs⟩)) (hx : cs[c]? = some (slP id z rows)) (ho : H[id]? = some (obP ty z rows)) (hne : i ≠ id)
    (k : ∀ H' : Heap, H'.length = H.length → H'[i]? = some (some ⟨ty', z', fz, .box (cs.set c (.pv (.sl z rows)))⟩) → (∀ j : Nat, j ≠ id → j ≠ i → H'[j]? = H[j]?) → Ghost n nh Γ H' Γ2 H2) : Ghost n nh Γ H Γ2 H2 := by
  obtain ⟨r0, h1, h2, h3⟩ := conv_sl ho
  have hn : i ∉ ids1 H (slP id z rows) := by
    cases rows with
    | nil => exact List.not_mem_nil
    | cons a l =>
      have e : ids1 H (slP id z (a :: l)) = [id] := by
        show idsC H 5 (.ms id z 0 (a :: l).length) = _
        simp only [idsC, ho, obP]; rfl
      rw [e]; simpa using hne
  have g := Ghost.shut (n := n) (nh := nh) (Γ := Γ) hi hx h1 h2 hn h3
  have hlt := (List.getElem?_eq_some_iff.1 hi).1
  refine g.trans (k _ (by rw [List.length_set, app_length]) ?_ fun j hj1 hj2 => ?_)
  · rw [List.getElem?_set, if_pos rfl, if_pos (by rw [app_length]; exact hlt)]
  · rw [List.getElem?_set, if_neg (fun e => hj2 e.symm)]
    exact ids_sl ho j hj1
theorem ret_sl {H : Heap} {Post : AV → Prop} (ho : H[id]? = some (obP ty z rows)) (h : Post (.pv (.sl z rows))) (hp : ∀ r r', ALe r r' → Post r' → Post r) : retOk 0 (slP id z rows) H (fun r H' => H' = [] ∧ Post r) := by
  obtain ⟨r0, h1, h2, h3⟩ := conv_sl ho
  exact ret_pure h1 h2 (hp _ _ h3 h)
/-- The same beside a plain value. -/
theorem ret_sl2 {H : Heap} {q : PV} {x : AV} (ho : H[id]? = some (obP ty z rows)) (h : x = .tup [.pv (.sl z rows), .pv q]) : retOk 0 (.tup [slP id z rows, .pv q]) H (fun r H' => H' = [] ∧ Leq r x) := by
  subst h
  cases rows with
  | nil => exact ret_pure (r0 := .tup [.pv (.val (.slice none 0 0)), .pv q]) rfl (by repeat' (first | exact trivial)) ⟨ALe.tup ⟨ALe.pv PLe.nil, ALe.refl, trivial⟩⟩
  | cons a l =>
    refine ret_pure (r0 := .tup [.pv (.sl z (a :: l)), .pv q]) ?_ ?_ ⟨ALe.refl⟩
    · simp only [slP, conv, mapO, conv1, convC, ho, obP]
      simp
    · simp only [slP, ok1, andL, ok0, okC, ho, obP]
      simp
theorem leq_down {x : AV} : ∀ r r', ALe r r' → Leq r' x → Leq r x := fun r r' h k => ⟨fun I β w v hv => k.le I β w v (h I β w v hv)⟩
end
end Go.Proofs.YtpnghlibmpainaaGreat.Cw

/-
  Plain laws: sums over pairs; the strain of a student; appending a whole list.
-/
namespace Go.Proofs.YtpnghlibmpainaaGreat.Cw
open Go Go.Cw Go.Proofs
set_option linter.unusedVariables false

/-- The sum of the first ones. -/
def sumN (f : Nat → Nat) : Nat → Nat
  | 0 => 0
  | n + 1 => sumN f n + f n
theorem sumN_congr {f g : Nat → Nat} : ∀ {n : Nat}, (∀ i, i < n → f i = g i) → sumN f n = sumN g n
  | 0, _ => rfl
  | n + 1, h => by rw [sumN, sumN, sumN_congr fun i hi => h i (by omega), h n (by omega)]
theorem sumN_zero {f : Nat → Nat} : ∀ {n : Nat}, (∀ i, i < n → f i = 0) → sumN f n = 0
  | 0, _ => rfl
  | n + 1, h => by rw [sumN, sumN_zero fun i hi => h i (by omega), h n (by omega)]
theorem sumN_add {f g : Nat → Nat} : ∀ {n : Nat}, sumN (fun i => f i + g i) n = sumN f n + sumN g n
  | 0 => rfl
  | n + 1 => by rw [sumN, sumN, sumN, sumN_add]; omega
theorem sumN_le {f : Nat → Nat} {b : Nat} : ∀ {n : Nat}, (∀ i, i < n → f i ≤ b) → sumN f n ≤ n * b
  | 0, _ => by simp [sumN]
  | n + 1, h => by
    have h1 := sumN_le (n := n) fun i hi => h i (by omega)
    have h2 := h n (by omega)
    rw [sumN, Nat.add_mul]; omega
/-- Over pairs: the later one outside, or inside. -/
theorem sumN_swap {g : Nat → Nat → Nat} : ∀ {n : Nat}, sumN (fun i => sumN (fun k => if i < k then g i k else 0) n) n = sumN (fun k => sumN (fun i => g i k) k) n
  | 0 => rfl
  | n + 1 => by
    have e : sumN (fun i => sumN (fun k => if i < k then g i k else 0) (n + 1)) n = sumN (fun i => sumN (fun k => if i < k then g i k else 0) n) n + sumN (fun i => g i n) n := by
      rw [← sumN_add]
      exact sumN_congr fun i hi => by rw [sumN, if_pos hi]
    have z : sumN (fun k => if n < k then g n k else 0) (n + 1) = 0 := sumN_zero fun k hk => if_neg (by omega)
    rw [sumN, e, z, sumN_swap, sumN]
    omega

/-- Whether exam i is one of the student's. -/
noncomputable def hasS (x : Exams) (s : Str) (i : Nat) : Bool := match x.exams[i]? with
  | some e => pB (s ∈ e.studs)
  | none => false
noncomputable def relQ (x : Exams) (a b : Nat) : Int := match x.sits[a]?, x.sits[b]? with
  | some s, some t => relE x a b s t
  | _, _ => -2
noncomputable def gS (x : Exams) (a : List Nat) (s : Str) (r : Int) (j i : Nat) : Nat := if hasS x s j = true ∧ hasS x s i = true ∧ relQ x (a.getD j 0) (a.getD i 0) = r then 1 else 0
noncomputable def totS (x : Exams) (a : List Nat) (s : Str) (r : Int) (n : Nat) : Nat := sumN (fun i => sumN (fun j => gS x a s r j i) i) n
noncomputable def strainR (x : Exams) (a : List Nat) (s : Str) : List PV := [es s, ei (totS x a s 2 x.exams.length), ei (totS x a s 3 x.exams.length), ei (totS x a s 4 x.exams.length)]
def eiN (n : Nat) : List PV := [ei n]

theorem hasS_at {x : Exams} {s : Str} {i : Nat} {e : Exam} (h : x.exams[i]? = some e) : hasS x s i = pB (s ∈ e.studs) := by unfold hasS; rw [h]
theorem relQ_at {x : Exams} {a b : Nat} {s t : Sitting} (ha : x.sits[a]? = some s) (hb : x.sits[b]? = some t) : relQ x a b = relE x a b s t := by unfold relQ; rw [ha, hb]
theorem gS_le {x : Exams} {a : List Nat} {s : Str} {r : Int} {j i : Nat} : gS x a s r j i ≤ 1 := by unfold gS; split <;> omega
theorem totS_le {x : Exams} {a : List Nat} {s : Str} {r : Int} {n : Nat} : totS x a s r n ≤ n * n := by
  refine sumN_le fun i hi => ?_
  have := sumN_le (f := fun j => gS x a s r j i) (n := i) fun j _ => gS_le
  omega
/-- The sittings of the student's first exams. -/
noncomputable def mineL (x : Exams) (a : List Nat) (s : Str) : Nat → List Nat
  | 0 => []
  | i + 1 => if hasS x s i = true then mineL x a s i ++ [a.getD i 0] else mineL x a s i
theorem mineL_len {x : Exams} {a : List Nat} {s : Str} : ∀ {i : Nat}, (mineL x a s i).length ≤ i
  | 0 => Nat.le_refl _
  | i + 1 => by
    have := mineL_len (x := x) (a := a) (s := s) (i := i)
    unfold mineL; split
    · rw [List.length_append]; simp; omega
    · omega
theorem mineL_mem {x : Exams} {a : List Nat} {s : Str} {p : Nat} : ∀ {i : Nat}, p ∈ mineL x a s i → ∃ j, j < i ∧ p = a.getD j 0
  | 0, h => by cases h
  | i + 1, h => by
    unfold mineL at h
    split at h
    · rcases List.mem_append.1 h with h | h
      · obtain ⟨j, hj, e⟩ := mineL_mem h; exact ⟨j, by omega, e⟩
      · exact ⟨i, by omega, by simpa using h⟩
    · obtain ⟨j, hj, e⟩ := mineL_mem h; exact ⟨j, by omega, e⟩
/-- So many of some sittings have a relation to one. -/
noncomputable def cntR (x : Exams) (q : Nat) (r : Int) (l : List Nat) : Nat := l.countP fun p => pB (relQ x p q = r)
theorem cntR_mine {x : Exams} {a : List Nat} {s : Str} {r : Int} {i : Nat} (h : hasS x s i = true) : ∀ {m : Nat}, cntR x (a.getD i 0) r (mineL x a s m) = sumN (fun j => gS x a s r j i) m
  | 0 => rfl
  | m + 1 => by
    have ih := cntR_mine (r := r) (a := a) h (m := m)
    rw [sumN, ← ih]
    by_cases hm : hasS x s m = true
    · rw [mineL, if_pos hm]
      unfold cntR gS
      rw [List.countP_append, List.countP_singleton]
      congr 1
      by_cases hr : relQ x (a.getD m 0) (a.getD i 0) = r
      · rw [if_pos (show hasS x s m = true ∧ hasS x s i = true ∧ relQ x (a.getD m 0) (a.getD i 0) = r from ⟨hm, h, hr⟩), if_pos (pB_t hr)]
      · rw [if_neg (show ¬ (hasS x s m = true ∧ hasS x s i = true ∧ relQ x (a.getD m 0) (a.getD i 0) = r) from fun k => hr k.2.2), if_neg (by rw [pB_f hr]; simp)]
    · have e : mineL x a s (m + 1) = mineL x a s m := by rw [mineL, if_neg hm]
      have z : gS x a s r m i = 0 := by unfold gS; exact if_neg fun k => hm k.1
      rw [e, z]; rfl
theorem totS_t {x : Exams} {a : List Nat} {s : Str} {r : Int} {i : Nat} (h : hasS x s i = true) : totS x a s r (i + 1) = totS x a s r i + cntR x (a.getD i 0) r (mineL x a s i) := by
  rw [cntR_mine h]; rfl
theorem totS_f {x : Exams} {a : List Nat} {s : Str} {r : Int} {i : Nat} (h : ¬ hasS x s i = true) : totS x a s r (i + 1) = totS x a s r i := by
  show totS x a s r i + sumN (fun j => gS x a s r j i) i = _
  rw [sumN_zero fun j _ => (show gS x a s r j i = 0 by unfold gS; exact if_neg fun k => h k.2.1)]; rfl
theorem cntR_take {x : Exams} {q p : Nat} {r : Int} {l : List Nat} {k : Nat} (h : l[k]? = some p) : cntR x q r (l.take (k + 1)) = cntR x q r (l.take k) + (if relQ x p q = r then 1 else 0) := by
  unfold cntR
  rw [List.take_add_one, h, List.countP_append]
  congr 1
  by_cases hr : relQ x p q = r
  · rw [if_pos hr]; simp [hr]
  · rw [if_neg hr]; simp [hr]
theorem cntR_le {x : Exams} {q : Nat} {r : Int} {l : List Nat} : cntR x q r l ≤ l.length := List.countP_le_length
/-- The reference's sums: the earlier exam outside. -/
noncomputable def inS (x : Exams) (a : List Nat) (s : Str) (r : Int) (i k : Nat) : Nat := sumN (fun k => if i < k then gS x a s r i k else 0) k
noncomputable def outS (x : Exams) (a : List Nat) (s : Str) (r : Int) (i : Nat) : Nat := sumN (fun i => inS x a s r i x.exams.length) i
theorem outS_all {x : Exams} {a : List Nat} {s : Str} {r : Int} : outS x a s r x.exams.length = totS x a s r x.exams.length := sumN_swap
theorem inS_begin {x : Exams} {a : List Nat} {s : Str} {r : Int} {i : Nat} : inS x a s r i (i + 1) = 0 := sumN_zero fun k hk => if_neg (by omega)
theorem inS_succ {x : Exams} {a : List Nat} {s : Str} {r : Int} {i k : Nat} (h : i < k) : inS x a s r i (k + 1) = inS x a s r i k + gS x a s r i k := by
  unfold inS; rw [sumN, if_pos h]
theorem inS_le {x : Exams} {a : List Nat} {s : Str} {r : Int} {i k : Nat} : inS x a s r i k ≤ k := by
  have := sumN_le (f := fun k => if i < k then gS x a s r i k else 0) (b := 1) (n := k) fun j _ => by
    split
    · exact gS_le
    · omega
  unfold inS; omega
theorem outS_le {x : Exams} {a : List Nat} {s : Str} {r : Int} {i : Nat} : outS x a s r i ≤ i * x.exams.length := sumN_le fun j _ => inS_le

section
variable {P : Program} {T : Tab} {id z ty : Nat} {rows ys : List (List PV)}
/-- A whole list is appended. -/
theorem st_appL {site b size bytes : Nat} {agg eagg : Bool} {zero ezero : List PV} {etk : TK} {s x : Operand} {t : TypeId} {d : Tmp} {Γ : Slots} {H : Heap} {K : Slots → Heap → Prop} (hs : ev Γ s = some (slP id z rows)) (hx : ev Γ x = some (.pv (.sl z ys))) (hl : Cw.look T t = some ⟨size, bytes, agg, .slice ty, zero⟩) (he : Cw.look T ty = some ⟨z, b, eagg, etk, ezero⟩) (hz : Nat.blt 0 z = true)
    (ho : H[id]? = some (obP ty z rows)) (hsite : H[site]? = some none) (hb : (rows.length + ys.length) * b ≤ 140737488355328) (hn : rows.length + ys.length ≤ 9223372036854775807)
    (h : forceH (app H [(id, none), (site, obP ty z (rows ++ ys))]) fun H2 => K ((d, slP site z (rows ++ ys)) :: Γ) H2) :
    vcStep P T site (some d) (.call { callee := .builtin .append, args := #[s, x], argTypes := #[t, t] }) Γ H K := by
  have hbq : Nat.beq t t = true := Nat.beq_refl t
  have hzz : Nat.beq z z = true := Nat.beq_refl z
  have hty : Nat.beq ty ty = true := Nat.beq_refl ty
  rw [forceH_eq] at h
  cases rows with
  | nil =>
    rw [app_none ho] at h
    simp only [vcStep, vcOp, hbq, hs, hx, vcAppend, hl, he, srcOk, hzz, hz, srcRows, Bool.and_self, Bool.true_and, slP, nilA, eqv_eq, putK, forceV, appK, forceH_eq]
    cases ys with
    | nil =>
      have e : app H [(site, obP ty z ([] ++ []))] = H := by
        show H.set site none = H
        apply List.ext_getElem?
        intro k
        rw [List.getElem?_set]
        by_cases e : site = k
        · subst e
          rw [if_pos rfl, if_pos (List.getElem?_eq_some_iff.1 hsite).1, hsite]
        · rw [if_neg e]
      rw [e] at h
      exact ⟨rfl, by simp [rowsLen], by simp [rowsLen], fun e => by simp [rowsLen] at e, fun _ => h⟩
    | cons a l =>
      refine ⟨rfl, by simpa [rowsLen] using hb, by simpa [rowsLen] using hn, fun _ => ?_, fun e => by simp [rowsLen] at e⟩
      exact h
  | cons a l =>
    simp only [vcStep, vcOp, hbq, hs, hx, vcAppend, hl, he, srcOk, hzz, hz, srcRows, ho, obP, Bool.and_self, Bool.true_and, slP, eqv_eq, putK, forceV, appK, forceH_eq, Bool.not_false, hty, dropR, catRows, List.drop_zero]
    have el : rowsLen (.p (a :: l ++ ys)) = (a :: l).length + ys.length := by simp only [rowsLen, List.length_append]
    refine ⟨by simp [rowsLen], rfl, by rw [el]; exact hb, by rw [el]; exact hn, ?_⟩
    have e : rowsLen (.p (a :: l ++ ys)) = (a :: (l ++ ys)).length := by simp [rowsLen]
    rw [e]
    exact h
theorem o_appL {n site b size bytes : Nat} {agg eagg : Bool} {zero ezero : List PV} {etk : TK} {s x : Operand} {t : TypeId} {d : Tmp} {Γ : Slots} {H : Heap} {K : Slots → Heap → Prop} {o : Oper} {all l : List Oper} {dc : Known}
    (hop : o.op = .call { callee := .builtin .append, args := #[s, x], argTypes := #[t, t] }) (hg : o.guard = none) (hd : o.dst = some d) (hdn : Nat.blt d n = true) (hs : ev Γ s = some (slP id z rows)) (hx : ev Γ x = some (.pv (.sl z ys))) (hl : Cw.look T t = some ⟨size, bytes, agg, .slice ty, zero⟩) (he : Cw.look T ty = some ⟨z, b, eagg, etk, ezero⟩) (hz : Nat.blt 0 z = true)
    (ho : H[id]? = some (obP ty z rows)) (hsite : H[site]? = some none) (hb : (rows.length + ys.length) * b ≤ 140737488355328) (hn : rows.length + ys.length ≤ 9223372036854775807)
    (h : knOut dc d fun d2 => forceH (app H [(id, none), (site, obP ty z (rows ++ ys))]) fun H2 => xOps P T n all l (site + 1) K d2 ((d, slP site z (rows ++ ys)) :: Γ) H2) :
    xOps P T n all (o :: l) site K dc Γ H := by
  refine ops_cons ?_
  have e1 : dstOk n o = true := by unfold dstOk; rw [hd]; exact hdn
  have e2 : isAlloc o.op = true := by rw [hop]; rfl
  rw [e1, e2]
  show vcGuard all Γ dc o.guard _ _
  rw [hg]
  simp only [vcGuard, knPut, hd, hop, knRes, simpOp]
  exact knOut_mono dc _ _ (fun d2 hh => st_appL hs hx hl he hz ho hsite hb hn hh) h
end
end Go.Proofs.YtpnghlibmpainaaGreat.Cw

/-
  Contracts: where a place is.
-/
namespace Go.Proofs.YtpnghlibmpainaaGreat.Cw
open Go Go.Cw Go.Proofs
set_option linter.unusedVariables false
set_option maxRecDepth 100000
set_option maxHeartbeats 4000000

/-- The first sitting at a time. -/
noncomputable def sitW (x : Exams) (t : Time) : Int := idxB (fun s => pB (timeOf s = t)) x.sits
def whereP (x : Exams) (p : Placed) : Prop := examsE x = 0 ∧ 0 ≤ sitW x p.time ∧ 0 ≤ p.room ∧ p.room < x.rooms.length
noncomputable def whereA (x : Exams) (p : Placed) : AV := .tup [vint .i64 (if pB (whereP x p) then sitW x p.time else 0), vint .i64 (if pB (whereP x p) then p.room else 0), vbool (pB (whereP x p))]
theorem whereA_t {x : Exams} {p : Placed} (h : whereP x p) : whereA x p = .tup [vint .i64 (sitW x p.time), vint .i64 p.room, vbool true] := by unfold whereA; rw [pB_t h]; rfl
theorem whereA_f {x : Exams} {p : Placed} (h : ¬ whereP x p) : whereA x p = .tup [vint .i64 0, vint .i64 0, vbool false] := by unfold whereA; rw [pB_f h]; rfl
theorem time_beq {a b : Time} : (a.weeks == b.weeks && (a.day == b.day && (a.start == b.start && (a.len == b.len && true)))) = pB (a = b) := by
  obtain ⟨a1, a2, a3, a4⟩ := a
  obtain ⟨b1, b2, b3, b4⟩ := b
  refine pB_eq ?_
  simp
theorem time_t {a b : Time} (h : a.weeks = b.weeks ∧ a.day = b.day ∧ a.start = b.start ∧ a.len = b.len) : a = b := by
  obtain ⟨a1, a2, a3, a4⟩ := a
  obtain ⟨b1, b2, b3, b4⟩ := b
  simpa using h
theorem time_f {a b : Time} (h : a.weeks = b.weeks → a.day = b.day → a.start = b.start → ¬ a.len = b.len) : ¬ a = b := fun e => h (by rw [e]) (by rw [e]) (by rw [e]) (by rw [e])
theorem c_index_sit (l : List Sitting) (f : FuncId) (caps : List PV) (p : Sitting → Bool) (hl : l.length ≤ 100000) (hf : ∀ x ∈ l, PCall Tryz.prog f (ag (Sitting.row x) :: pvs caps) (fun r => r = vbool (p x))) :
    PCall Tryz.prog 106 [.pv (.sl 4 (l.map Sitting.row)), .pv (.fn f caps)] (fun r => r = vint .i64 (idxB p l)) := by
  refine acall_of tok mixed 19 rfl (fn := Tryz.f106) (c := Tryz.f106.body.getD .skip) (by kernel_rfl) (by kernel_rfl) (by kernel_rfl) rfl 0 rfl ?_
  repeat' (first | refine o1 ?_ | refine o2 ?_ | refine k1 ?_ | refine k2 ?_ | refine k3 ?_ | refine k4 ?_ | refine k6 ?_ | refine k7 ?_ | refine k8 ?_ | refine And.intro ?_ ?_ | exact trivial | refine o3 ?_ | refine o4 ?_ | refine o5 ?_ | refine o6 ?_ | refine k5 ?_ | (intro h; first | exact Bool.noConfusion h | exact nz _ h | exact nl h | (simp at h; done) | (simp at h; first | (exfalso; omega) | skip) | skip) | (change retOk _ _ _ _; refine ret_pure rfl trivial ?_) | exact (rfl : allOne _ = true) | (refine (?_ : (0 : Int) ≤ _); omega) | (refine (?_ : _ ≠ _); omega) | (refine (?_ : srcLen _ = rowsLen _); rfl) | exact Nat.le_of_ble_eq_true rfl | exact (by kernel_rfl : drawOk _ _ = true) | refine eqv_len_map ?_ | refine eqv_size ?_ | refine eqv_put (eqv_ck ?_) | refine eqv_zero ?_ | refine eqv_wrap (by omega) (by omega) ?_ | refine eqv_u64 (by omega) (by omega) ?_ | refine eqv_u8 (by omega) (by omega) ?_ | refine eqv_to _ (set_map rfl rfl) ?_ | refine ⟨_, _, (by first | rfl | assumption), at_map (by assumption), ?_⟩ | refine ⟨_, _, (by first | rfl | assumption), (by assumption), ?_⟩ | refine ⟨_, at_map (by assumption), (by decide), ?_⟩ | refine ⟨_, at_map (by assumption), ?_⟩ | (refine (?_ : _ ≤ 140737488355328); simp [rowsLen] <;> omega) | (refine (?_ : _ ≤ 9223372036854775807); simp [rowsLen] <;> omega) | (refine (?_ : _ = rowsLen _); simp [rowsLen] <;> omega) | refine eqv_to _ (app_row rfl) (eqv_to _ app_len ?_) | refine eqv_to _ (app_first rfl) (eqv_to 1 rfl ?_) | refine idx_sl (at_map (by assumption)) (by omega) ?_ | refine idx_ms _ (by first | rfl | assumption) (by first | assumption | omega) ?_ | fail)
  refine loop_at (fun i : Nat => [(8, vint .i64 i)]) (fun _ => []) (fun i => i ≤ l.length ∧ ∀ j, j < i → ∀ y, l[j]? = some y → p y = false) (fun i => l.length - i) 0 ⟨by omega, fun j hj => by omega⟩ (by repeat' (first | exact trivial | exact rfl | exact ⟨_, rfl, ALe.refl⟩ | refine And.intro ?_ ?_)) (by repeat' (first | exact trivial | exact rfl | exact ⟨_, rfl, ALe.refl⟩ | refine And.intro ?_ ?_)) ?_
  intro i ⟨hi, hall⟩
  rcases Nat.lt_or_ge i l.length with hlt | hge
  · obtain ⟨x, hx⟩ := getE hlt
    have hm := List.mem_of_getElem? hx
    repeat' (first | refine o1 ?_ | refine o2 ?_ | refine k1 ?_ | refine k2 ?_ | refine k3 ?_ | refine k4 ?_ | refine k6 ?_ | refine k7 ?_ | refine k8 ?_ | refine And.intro ?_ ?_ | exact trivial | refine o3 ?_ | refine o4 ?_ | refine o5 ?_ | refine o6 ?_ | refine k5 ?_ | (intro h; first | exact Bool.noConfusion h | exact nz _ h | exact nl h | (simp at h; done) | (simp at h; first | (exfalso; omega) | skip) | skip) | (change retOk _ _ _ _; refine ret_pure rfl trivial ?_) | exact (rfl : allOne _ = true) | (refine (?_ : (0 : Int) ≤ _); omega) | (refine (?_ : _ ≠ _); omega) | (refine (?_ : srcLen _ = rowsLen _); rfl) | exact Nat.le_of_ble_eq_true rfl | exact (by kernel_rfl : drawOk _ _ = true) | refine eqv_len_map ?_ | refine eqv_size ?_ | refine eqv_put (eqv_ck ?_) | refine eqv_zero ?_ | refine eqv_wrap (by omega) (by omega) ?_ | refine eqv_u64 (by omega) (by omega) ?_ | refine eqv_u8 (by omega) (by omega) ?_ | refine eqv_to _ (set_map rfl rfl) ?_ | refine ⟨_, _, (by first | rfl | assumption), at_map (by assumption), ?_⟩ | refine ⟨_, _, (by first | rfl | assumption), (by assumption), ?_⟩ | refine ⟨_, at_map (by assumption), (by decide), ?_⟩ | refine ⟨_, at_map (by assumption), ?_⟩ | (refine (?_ : _ ≤ 140737488355328); simp [rowsLen] <;> omega) | (refine (?_ : _ ≤ 9223372036854775807); simp [rowsLen] <;> omega) | (refine (?_ : _ = rowsLen _); simp [rowsLen] <;> omega) | refine eqv_to _ (app_row rfl) (eqv_to _ app_len ?_) | refine eqv_to _ (app_first rfl) (eqv_to 1 rfl ?_) | refine idx_sl (at_map (by assumption)) (by omega) ?_ | refine idx_ms _ (by first | rfl | assumption) (by first | assumption | omega) ?_ | (change vcFun _ _ (_ ++ pvs _) _ _; refine call_cap rfl (by repeat' (first | trivial | refine And.intro ?_ ?_ | (show 0 + _ ≤ List.length _; simp))) (hf x hm) rfl ?_) | fail)
    all_goals first
      | exact ⟨i + 1, ⟨by omega, all_lt_succ hall fun y hy => by rw [hx] at hy; cases hy; assumption⟩, by omega, back [] rfl rfl trivial (by repeat' (first | exact trivial | exact rfl | exact ⟨_, rfl, ALe.refl⟩ | refine And.intro ?_ ?_))⟩
      | exact congrArg (vint .i64) (idxB_at hall hx (by assumption)).symm
  · repeat' (first | refine o1 ?_ | refine o2 ?_ | refine k1 ?_ | refine k2 ?_ | refine k3 ?_ | refine k4 ?_ | refine k6 ?_ | refine k7 ?_ | refine k8 ?_ | refine And.intro ?_ ?_ | exact trivial | refine o3 ?_ | refine o4 ?_ | refine o5 ?_ | refine o6 ?_ | refine k5 ?_ | (intro h; first | exact Bool.noConfusion h | exact nz _ h | exact nl h | (simp at h; done) | (simp at h; first | (exfalso; omega) | skip) | skip) | (change retOk _ _ _ _; refine ret_pure rfl trivial ?_) | exact (rfl : allOne _ = true) | (refine (?_ : (0 : Int) ≤ _); omega) | (refine (?_ : _ ≠ _); omega) | (refine (?_ : srcLen _ = rowsLen _); rfl) | exact Nat.le_of_ble_eq_true rfl | exact (by kernel_rfl : drawOk _ _ = true) | refine eqv_len_map ?_ | refine eqv_size ?_ | refine eqv_put (eqv_ck ?_) | refine eqv_zero ?_ | refine eqv_wrap (by omega) (by omega) ?_ | refine eqv_u64 (by omega) (by omega) ?_ | refine eqv_u8 (by omega) (by omega) ?_ | refine eqv_to _ (set_map rfl rfl) ?_ | refine ⟨_, _, (by first | rfl | assumption), at_map (by assumption), ?_⟩ | refine ⟨_, _, (by first | rfl | assumption), (by assumption), ?_⟩ | refine ⟨_, at_map (by assumption), (by decide), ?_⟩ | refine ⟨_, at_map (by assumption), ?_⟩ | (refine (?_ : _ ≤ 140737488355328); simp [rowsLen] <;> omega) | (refine (?_ : _ ≤ 9223372036854775807); simp [rowsLen] <;> omega) | (refine (?_ : _ = rowsLen _); simp [rowsLen] <;> omega) | refine eqv_to _ (app_row rfl) (eqv_to _ app_len ?_) | refine eqv_to _ (app_first rfl) (eqv_to 1 rfl ?_) | refine idx_sl (at_map (by assumption)) (by omega) ?_ | refine idx_ms _ (by first | rfl | assumption) (by first | assumption | omega) ?_ | fail)
    exact congrArg (vint .i64) (idxB_none fun j hj => hall j (by omega)).symm
theorem c_where1 (s : Sitting) (p : Placed) : PCall Tryz.prog 107 [ag s.row, .pv (.ia p.row)] (fun r => r = vbool (pB (timeOf s = p.time))) := by
  refine acall_of tok mixed 9 rfl (fn := Tryz.f107) (c := Tryz.f107.body.getD .skip) (by kernel_rfl) (by kernel_rfl) (by kernel_rfl) rfl 0 rfl ?_
  repeat' (first | refine o1 ?_ | refine o2 ?_ | refine k1 ?_ | refine k2 ?_ | refine k3 ?_ | refine k4 ?_ | refine k6 ?_ | refine k7 ?_ | refine k8 ?_ | refine And.intro ?_ ?_ | exact trivial | refine o3 ?_ | refine o4 ?_ | refine o5 ?_ | refine o6 ?_ | refine k5 ?_ | (intro h; first | exact Bool.noConfusion h | exact nz _ h | exact nl h | (simp at h; done) | (simp at h; first | (exfalso; omega) | skip) | skip) | (change retOk _ _ _ _; refine ret_pure rfl trivial ?_) | exact (rfl : allOne _ = true) | (refine (?_ : (0 : Int) ≤ _); omega) | (refine (?_ : _ ≠ _); omega) | (refine (?_ : srcLen _ = rowsLen _); rfl) | exact Nat.le_of_ble_eq_true rfl | exact (by kernel_rfl : drawOk _ _ = true) | refine eqv_len_map ?_ | refine eqv_size ?_ | refine eqv_put (eqv_ck ?_) | refine eqv_zero ?_ | refine eqv_wrap (by omega) (by omega) ?_ | refine eqv_u64 (by omega) (by omega) ?_ | refine eqv_u8 (by omega) (by omega) ?_ | refine eqv_to _ (set_map rfl rfl) ?_ | refine ⟨_, _, (by first | rfl | assumption), at_map (by assumption), ?_⟩ | refine ⟨_, _, (by first | rfl | assumption), (by assumption), ?_⟩ | refine ⟨_, at_map (by assumption), (by decide), ?_⟩ | refine ⟨_, at_map (by assumption), ?_⟩ | (refine (?_ : _ ≤ 140737488355328); simp [rowsLen] <;> omega) | (refine (?_ : _ ≤ 9223372036854775807); simp [rowsLen] <;> omega) | (refine (?_ : _ = rowsLen _); simp [rowsLen] <;> omega) | refine eqv_to _ (app_row rfl) (eqv_to _ app_len ?_) | refine eqv_to _ (app_first rfl) (eqv_to 1 rfl ?_) | refine idx_sl (at_map (by assumption)) (by omega) ?_ | refine idx_ms _ (by first | rfl | assumption) (by first | assumption | omega) ?_ | (change vcFunD _ _ _ _ _; refine callD_eq rfl (by repeat' (first | trivial | refine And.intro ?_ ?_ | (show 0 + _ ≤ List.length _; simp))) ALeL.refl (c_time s) rfl ?_) | fail)
  exact congrArg vbool time_beq
theorem c_where (x : Exams) (p : Placed) (h : examsE x = 0) : PCall Tryz.prog 64 [ag x.cells, ag p.row] (fun r => r = whereA x p) := by
  have hn := (fine_of h).sn
  have h1 := c_index_sit x.sits 107 [.ia p.row] (fun s => pB (timeOf s = p.time)) (by omega) (fun s _ => c_where1 s p)
  have hP : whereP x p ↔ 0 ≤ sitW x p.time ∧ 0 ≤ p.room ∧ p.room < x.rooms.length := ⟨fun k => k.2, fun k => ⟨h, k⟩⟩
  change PCall _ _ _ (fun r => r = vint .i64 (sitW x p.time)) at h1
  refine acall_of tok mixed 30 rfl (fn := Tryz.f64) (c := Tryz.f64.body.getD .skip) (by kernel_rfl) (by kernel_rfl) (by kernel_rfl) rfl 0 rfl ?_
  repeat' (first | refine o1 ?_ | refine o2 ?_ | refine k1 ?_ | refine k2 ?_ | refine k3 ?_ | refine k4 ?_ | refine k6 ?_ | refine k7 ?_ | refine k8 ?_ | refine And.intro ?_ ?_ | exact trivial | refine o3 ?_ | refine o4 ?_ | refine o5 ?_ | refine o6 ?_ | refine k5 ?_ | (intro h; first | exact Bool.noConfusion h | exact nz _ h | exact nl h | (simp at h; done) | (simp at h; first | (exfalso; omega) | skip) | skip) | (change retOk _ _ _ _; refine ret_pure rfl trivial ?_) | exact (rfl : allOne _ = true) | (refine (?_ : (0 : Int) ≤ _); omega) | (refine (?_ : _ ≠ _); omega) | (refine (?_ : srcLen _ = rowsLen _); rfl) | exact Nat.le_of_ble_eq_true rfl | exact (by kernel_rfl : drawOk _ _ = true) | refine eqv_len_map ?_ | refine eqv_size ?_ | refine eqv_put (eqv_ck ?_) | refine eqv_zero ?_ | refine eqv_wrap (by omega) (by omega) ?_ | refine eqv_u64 (by omega) (by omega) ?_ | refine eqv_u8 (by omega) (by omega) ?_ | refine eqv_to _ (set_map rfl rfl) ?_ | refine ⟨_, _, (by first | rfl | assumption), at_map (by assumption), ?_⟩ | refine ⟨_, _, (by first | rfl | assumption), (by assumption), ?_⟩ | refine ⟨_, at_map (by assumption), (by decide), ?_⟩ | refine ⟨_, at_map (by assumption), ?_⟩ | (refine (?_ : _ ≤ 140737488355328); simp [rowsLen] <;> omega) | (refine (?_ : _ ≤ 9223372036854775807); simp [rowsLen] <;> omega) | (refine (?_ : _ = rowsLen _); simp [rowsLen] <;> omega) | refine eqv_to _ (app_row rfl) (eqv_to _ app_len ?_) | refine eqv_to _ (app_first rfl) (eqv_to 1 rfl ?_) | refine idx_sl (at_map (by assumption)) (by omega) ?_ | refine idx_ms _ (by first | rfl | assumption) (by first | assumption | omega) ?_ | (change vcFun _ _ _ _ _; refine call_eq rfl (by repeat' (first | trivial | refine And.intro ?_ ?_ | (show 0 + _ ≤ List.length _; simp))) ALeL.refl (h1) rfl ?_) | fail)
  all_goals first
    | exact (whereA_f fun k => by have := hP.1 k; omega).symm
    | exact (whereA_t (hP.2 ⟨by omega, by omega, by omega⟩)).symm
theorem c_Where (x : Exams) (p : Placed) : PCall Tryz.prog 27 [ag x.cells, ag p.row] (fun r => r = whereA x p) := by
  by_cases h : examsE x = 0
  · have h1 := c_exams x
    have h2 := c_where x p h
    rw [h] at h1
    unfold whereA at *
    refine acall_of tok mixed 16 rfl (fn := Tryz.f27) (c := Tryz.f27.body.getD .skip) (by kernel_rfl) (by kernel_rfl) (by kernel_rfl) rfl 0 rfl ?_
    repeat' (first | refine o1 ?_ | refine o2 ?_ | refine k1 ?_ | refine k2 ?_ | refine k3 ?_ | refine k4 ?_ | refine k6 ?_ | refine k7 ?_ | refine k8 ?_ | refine And.intro ?_ ?_ | exact trivial | refine o3 ?_ | refine o4 ?_ | refine o5 ?_ | refine o6 ?_ | refine k5 ?_ | (intro h; first | exact Bool.noConfusion h | exact nz _ h | exact nl h | (simp at h; done) | (simp at h; first | (exfalso; omega) | skip) | skip) | (change retOk _ _ _ _; refine ret_pure rfl trivial ?_) | exact (rfl : allOne _ = true) | (refine (?_ : (0 : Int) ≤ _); omega) | (refine (?_ : _ ≠ _); omega) | (refine (?_ : srcLen _ = rowsLen _); rfl) | exact Nat.le_of_ble_eq_true rfl | exact (by kernel_rfl : drawOk _ _ = true) | refine eqv_len_map ?_ | refine eqv_size ?_ | refine eqv_put (eqv_ck ?_) | refine eqv_zero ?_ | refine eqv_wrap (by omega) (by omega) ?_ | refine eqv_u64 (by omega) (by omega) ?_ | refine eqv_u8 (by omega) (by omega) ?_ | refine eqv_to _ (set_map rfl rfl) ?_ | refine ⟨_, _, (by first | rfl | assumption), at_map (by assumption), ?_⟩ | refine ⟨_, _, (by first | rfl | assumption), (by assumption), ?_⟩ | refine ⟨_, at_map (by assumption), (by decide), ?_⟩ | refine ⟨_, at_map (by assumption), ?_⟩ | (refine (?_ : _ ≤ 140737488355328); simp [rowsLen] <;> omega) | (refine (?_ : _ ≤ 9223372036854775807); simp [rowsLen] <;> omega) | (refine (?_ : _ = rowsLen _); simp [rowsLen] <;> omega) | refine eqv_to _ (app_row rfl) (eqv_to _ app_len ?_) | refine eqv_to _ (app_first rfl) (eqv_to 1 rfl ?_) | refine idx_sl (at_map (by assumption)) (by omega) ?_ | refine idx_ms _ (by first | rfl | assumption) (by first | assumption | omega) ?_ | (change vcFun _ _ _ _ _; refine call_eq rfl (by repeat' (first | trivial | refine And.intro ?_ ?_ | (show 0 + _ ≤ List.length _; simp))) ALeL.refl (h1) rfl ?_) | (change vcFun _ _ _ _ _; refine call_eq rfl (by repeat' (first | trivial | refine And.intro ?_ ?_ | (show 0 + _ ≤ List.length _; simp))) ALeL.refl (h2) rfl ?_) | fail)
    all_goals first
      | rfl
  · have h1 := c_exams x
    rw [whereA_f fun k => h k.1]
    generalize examsE x = E at *
    refine acall_of tok mixed 16 rfl (fn := Tryz.f27) (c := Tryz.f27.body.getD .skip) (by kernel_rfl) (by kernel_rfl) (by kernel_rfl) rfl 0 rfl ?_
    repeat' (first | refine o1 ?_ | refine o2 ?_ | refine k1 ?_ | refine k2 ?_ | refine k3 ?_ | refine k4 ?_ | refine k6 ?_ | refine k7 ?_ | refine k8 ?_ | refine And.intro ?_ ?_ | exact trivial | refine o3 ?_ | refine o4 ?_ | refine o5 ?_ | refine o6 ?_ | refine k5 ?_ | (intro h; first | exact Bool.noConfusion h | exact nz _ h | exact nl h | (simp at h; done) | (simp at h; first | (exfalso; omega) | skip) | skip) | (change retOk _ _ _ _; refine ret_pure rfl trivial ?_) | exact (rfl : allOne _ = true) | (refine (?_ : (0 : Int) ≤ _); omega) | (refine (?_ : _ ≠ _); omega) | (refine (?_ : srcLen _ = rowsLen _); rfl) | exact Nat.le_of_ble_eq_true rfl | exact (by kernel_rfl : drawOk _ _ = true) | refine eqv_len_map ?_ | refine eqv_size ?_ | refine eqv_put (eqv_ck ?_) | refine eqv_zero ?_ | refine eqv_wrap (by omega) (by omega) ?_ | refine eqv_u64 (by omega) (by omega) ?_ | refine eqv_u8 (by omega) (by omega) ?_ | refine eqv_to _ (set_map rfl rfl) ?_ | refine ⟨_, _, (by first | rfl | assumption), at_map (by assumption), ?_⟩ | refine ⟨_, _, (by first | rfl | assumption), (by assumption), ?_⟩ | refine ⟨_, at_map (by assumption), (by decide), ?_⟩ | refine ⟨_, at_map (by assumption), ?_⟩ | (refine (?_ : _ ≤ 140737488355328); simp [rowsLen] <;> omega) | (refine (?_ : _ ≤ 9223372036854775807); simp [rowsLen] <;> omega) | (refine (?_ : _ = rowsLen _); simp [rowsLen] <;> omega) | refine eqv_to _ (app_row rfl) (eqv_to _ app_len ?_) | refine eqv_to _ (app_first rfl) (eqv_to 1 rfl ?_) | refine idx_sl (at_map (by assumption)) (by omega) ?_ | refine idx_ms _ (by first | rfl | assumption) (by first | assumption | omega) ?_ | (change vcFun _ _ _ _ _; refine call_eq rfl (by repeat' (first | trivial | refine And.intro ?_ ?_ | (show 0 + _ ≤ List.length _; simp))) ALeL.refl (h1) rfl ?_) | fail)
    all_goals first
      | (exfalso; omega)
      | rfl
theorem c_rWhere (x : Exams) (p : Placed) (hs : x.sits.length ≤ 100000) : PCall Tryz.prog 29 [ag x.cells, ag p.row] (fun r => r = whereA x p) := by
  have h1 := c_rexams x
  by_cases h : examsE x = 0 ∧ 0 ≤ p.room ∧ p.room < x.rooms.length
  · obtain ⟨h, hr1, hr2⟩ := h
    rw [h] at h1
    refine acall_of tok mixed 43 rfl (fn := Tryz.f29) (c := Tryz.f29.body.getD .skip) (by kernel_rfl) (by kernel_rfl) (by kernel_rfl) rfl 0 rfl ?_
    repeat' (first | refine o1 ?_ | refine o2 ?_ | refine k1 ?_ | refine k2 ?_ | refine k3 ?_ | refine k4 ?_ | refine k6 ?_ | refine k7 ?_ | refine k8 ?_ | refine And.intro ?_ ?_ | exact trivial | refine o3 ?_ | refine o4 ?_ | refine o5 ?_ | refine o6 ?_ | refine k5 ?_ | (intro h; first | exact Bool.noConfusion h | exact nz _ h | exact nl h | (simp at h; done) | (simp at h; first | (exfalso; omega) | skip) | skip) | (change retOk _ _ _ _; refine ret_pure rfl trivial ?_) | exact (rfl : allOne _ = true) | (refine (?_ : (0 : Int) ≤ _); omega) | (refine (?_ : _ ≠ _); omega) | (refine (?_ : srcLen _ = rowsLen _); rfl) | exact Nat.le_of_ble_eq_true rfl | exact (by kernel_rfl : drawOk _ _ = true) | refine eqv_len_map ?_ | refine eqv_size ?_ | refine eqv_put (eqv_ck ?_) | refine eqv_zero ?_ | refine eqv_wrap (by omega) (by omega) ?_ | refine eqv_u64 (by omega) (by omega) ?_ | refine eqv_u8 (by omega) (by omega) ?_ | refine eqv_to _ (set_map rfl rfl) ?_ | refine ⟨_, _, (by first | rfl | assumption), at_map (by assumption), ?_⟩ | refine ⟨_, _, (by first | rfl | assumption), (by assumption), ?_⟩ | refine ⟨_, at_map (by assumption), (by decide), ?_⟩ | refine ⟨_, at_map (by assumption), ?_⟩ | (refine (?_ : _ ≤ 140737488355328); simp [rowsLen] <;> omega) | (refine (?_ : _ ≤ 9223372036854775807); simp [rowsLen] <;> omega) | (refine (?_ : _ = rowsLen _); simp [rowsLen] <;> omega) | refine eqv_to _ (app_row rfl) (eqv_to _ app_len ?_) | refine eqv_to _ (app_first rfl) (eqv_to 1 rfl ?_) | refine idx_sl (at_map (by assumption)) (by omega) ?_ | refine idx_ms _ (by first | rfl | assumption) (by first | assumption | omega) ?_ | (change vcFun _ _ _ _ _; refine call_eq rfl (by repeat' (first | trivial | refine And.intro ?_ ?_ | (show 0 + _ ≤ List.length _; simp))) ALeL.refl (h1) rfl ?_) | fail)
    all_goals try (exfalso; omega)
    refine loop_in (fun i : Nat => [(7, vint .i64 i)]) (fun _ => [some ⟨33, 8, false, .box (pvs x.cells)⟩, some ⟨66, 5, false, .box (pvs p.row)⟩]) (fun i => i ≤ x.sits.length ∧ ∀ j, j < i → ∀ y, x.sits[j]? = some y → pB (timeOf y = p.time) = false) (fun i => x.sits.length - i) 0 ⟨Nat.zero_le _, fun j hj => by omega⟩ ⟨?_, ?_⟩
    · exact back [0, 1] rfl rfl ⟨rfl, rfl, trivial⟩ (by repeat' (first | exact trivial | exact rfl | exact ⟨_, rfl, ALe.refl⟩ | refine And.intro ?_ ?_))
    intro i ⟨hi, hall⟩
    rcases Nat.lt_or_ge i x.sits.length with hlt | hge
    · obtain ⟨s, hs⟩ := getE hlt
      repeat' (first | refine o1 ?_ | refine o2 ?_ | refine k1 ?_ | refine k2 ?_ | refine k3 ?_ | refine k4 ?_ | refine k6 ?_ | refine k7 ?_ | refine k8 ?_ | refine And.intro ?_ ?_ | exact trivial | refine o3 ?_ | refine o4 ?_ | refine o5 ?_ | refine o6 ?_ | refine k5 ?_ | (intro h; first | exact Bool.noConfusion h | exact nz _ h | exact nl h | (simp at h; done) | (simp at h; first | (exfalso; omega) | skip) | skip) | (change retOk _ _ _ _; refine ret_pure rfl trivial ?_) | exact (rfl : allOne _ = true) | (refine (?_ : (0 : Int) ≤ _); omega) | (refine (?_ : _ ≠ _); omega) | (refine (?_ : srcLen _ = rowsLen _); rfl) | exact Nat.le_of_ble_eq_true rfl | exact (by kernel_rfl : drawOk _ _ = true) | refine eqv_len_map ?_ | refine eqv_size ?_ | refine eqv_put (eqv_ck ?_) | refine eqv_zero ?_ | refine eqv_wrap (by omega) (by omega) ?_ | refine eqv_u64 (by omega) (by omega) ?_ | refine eqv_u8 (by omega) (by omega) ?_ | refine eqv_to _ (set_map rfl rfl) ?_ | refine ⟨_, _, (by first | rfl | assumption), at_map (by assumption), ?_⟩ | refine ⟨_, _, (by first | rfl | assumption), (by assumption), ?_⟩ | refine ⟨_, at_map (by assumption), (by decide), ?_⟩ | refine ⟨_, at_map (by assumption), ?_⟩ | (refine (?_ : _ ≤ 140737488355328); simp [rowsLen] <;> omega) | (refine (?_ : _ ≤ 9223372036854775807); simp [rowsLen] <;> omega) | (refine (?_ : _ = rowsLen _); simp [rowsLen] <;> omega) | refine eqv_to _ (app_row rfl) (eqv_to _ app_len ?_) | refine eqv_to _ (app_first rfl) (eqv_to 1 rfl ?_) | refine idx_sl (at_map (by assumption)) (by omega) ?_ | refine idx_ms _ (by first | rfl | assumption) (by first | assumption | omega) ?_ | (change vcFunD _ _ _ _ _; refine callD_eq rfl (by repeat' (first | trivial | refine And.intro ?_ ?_ | (show 0 + _ ≤ List.length _; simp))) ALeL.refl (c_rtime s) rfl ?_) | fail)
      all_goals first
        | exact ⟨i + 1, ⟨hlt, all_lt_succ hall fun y hy => by rw [hs] at hy; cases hy; exact pB_f (time_f (by assumption))⟩, by omega, back [0, 1] rfl rfl ⟨rfl, rfl, trivial⟩ (by repeat' (first | exact trivial | exact rfl | exact ⟨_, rfl, ALe.refl⟩ | refine And.intro ?_ ?_))⟩
        | (have e : sitW x p.time = i := idxB_at hall hs (pB_t (time_t (by assumption)))
           rw [whereA_t ⟨by assumption, by omega, hr1, hr2⟩, e]; rfl)
    · have e : sitW x p.time = -1 := idxB_none fun j hj => hall j (by omega)
      repeat' (first | refine o1 ?_ | refine o2 ?_ | refine k1 ?_ | refine k2 ?_ | refine k3 ?_ | refine k4 ?_ | refine k6 ?_ | refine k7 ?_ | refine k8 ?_ | refine And.intro ?_ ?_ | exact trivial | refine o3 ?_ | refine o4 ?_ | refine o5 ?_ | refine o6 ?_ | refine k5 ?_ | (intro h; first | exact Bool.noConfusion h | exact nz _ h | exact nl h | (simp at h; done) | (simp at h; first | (exfalso; omega) | skip) | skip) | (change retOk _ _ _ _; refine ret_pure rfl trivial ?_) | exact (rfl : allOne _ = true) | (refine (?_ : (0 : Int) ≤ _); omega) | (refine (?_ : _ ≠ _); omega) | (refine (?_ : srcLen _ = rowsLen _); rfl) | exact Nat.le_of_ble_eq_true rfl | exact (by kernel_rfl : drawOk _ _ = true) | refine eqv_len_map ?_ | refine eqv_size ?_ | refine eqv_put (eqv_ck ?_) | refine eqv_zero ?_ | refine eqv_wrap (by omega) (by omega) ?_ | refine eqv_u64 (by omega) (by omega) ?_ | refine eqv_u8 (by omega) (by omega) ?_ | refine eqv_to _ (set_map rfl rfl) ?_ | refine ⟨_, _, (by first | rfl | assumption), at_map (by assumption), ?_⟩ | refine ⟨_, _, (by first | rfl | assumption), (by assumption), ?_⟩ | refine ⟨_, at_map (by assumption), (by decide), ?_⟩ | refine ⟨_, at_map (by assumption), ?_⟩ | (refine (?_ : _ ≤ 140737488355328); simp [rowsLen] <;> omega) | (refine (?_ : _ ≤ 9223372036854775807); simp [rowsLen] <;> omega) | (refine (?_ : _ = rowsLen _); simp [rowsLen] <;> omega) | refine eqv_to _ (app_row rfl) (eqv_to _ app_len ?_) | refine eqv_to _ (app_first rfl) (eqv_to 1 rfl ?_) | refine idx_sl (at_map (by assumption)) (by omega) ?_ | refine idx_ms _ (by first | rfl | assumption) (by first | assumption | omega) ?_ | fail)
      rw [whereA_f fun k => by have := k.2.1; omega]
      rfl
  · rw [whereA_f fun k => h ⟨k.1, k.2.2⟩]
    refine acall_of tok mixed 43 rfl (fn := Tryz.f29) (c := Tryz.f29.body.getD .skip) (by kernel_rfl) (by kernel_rfl) (by kernel_rfl) rfl 0 rfl ?_
    by_cases h0 : examsE x = 0
    · rw [h0] at h1
      repeat' (first | refine o1 ?_ | refine o2 ?_ | refine k1 ?_ | refine k2 ?_ | refine k3 ?_ | refine k4 ?_ | refine k6 ?_ | refine k7 ?_ | refine k8 ?_ | refine And.intro ?_ ?_ | exact trivial | refine o3 ?_ | refine o4 ?_ | refine o5 ?_ | refine o6 ?_ | refine k5 ?_ | (intro h; first | exact Bool.noConfusion h | exact nz _ h | exact nl h | (simp at h; done) | (simp at h; first | (exfalso; omega) | skip) | skip) | (change retOk _ _ _ _; refine ret_pure rfl trivial ?_) | exact (rfl : allOne _ = true) | (refine (?_ : (0 : Int) ≤ _); omega) | (refine (?_ : _ ≠ _); omega) | (refine (?_ : srcLen _ = rowsLen _); rfl) | exact Nat.le_of_ble_eq_true rfl | exact (by kernel_rfl : drawOk _ _ = true) | refine eqv_len_map ?_ | refine eqv_size ?_ | refine eqv_put (eqv_ck ?_) | refine eqv_zero ?_ | refine eqv_wrap (by omega) (by omega) ?_ | refine eqv_u64 (by omega) (by omega) ?_ | refine eqv_u8 (by omega) (by omega) ?_ | refine eqv_to _ (set_map rfl rfl) ?_ | refine ⟨_, _, (by first | rfl | assumption), at_map (by assumption), ?_⟩ | refine ⟨_, _, (by first | rfl | assumption), (by assumption), ?_⟩ | refine ⟨_, at_map (by assumption), (by decide), ?_⟩ | refine ⟨_, at_map (by assumption), ?_⟩ | (refine (?_ : _ ≤ 140737488355328); simp [rowsLen] <;> omega) | (refine (?_ : _ ≤ 9223372036854775807); simp [rowsLen] <;> omega) | (refine (?_ : _ = rowsLen _); simp [rowsLen] <;> omega) | refine eqv_to _ (app_row rfl) (eqv_to _ app_len ?_) | refine eqv_to _ (app_first rfl) (eqv_to 1 rfl ?_) | refine idx_sl (at_map (by assumption)) (by omega) ?_ | refine idx_ms _ (by first | rfl | assumption) (by first | assumption | omega) ?_ | (change vcFun _ _ _ _ _; refine call_eq rfl (by repeat' (first | trivial | refine And.intro ?_ ?_ | (show 0 + _ ≤ List.length _; simp))) ALeL.refl (h1) rfl ?_) | fail)
      all_goals first
        | (exfalso; exact h ⟨h0, by omega, by omega⟩)
        | rfl
    · generalize examsE x = E at *
      repeat' (first | refine o1 ?_ | refine o2 ?_ | refine k1 ?_ | refine k2 ?_ | refine k3 ?_ | refine k4 ?_ | refine k6 ?_ | refine k7 ?_ | refine k8 ?_ | refine And.intro ?_ ?_ | exact trivial | refine o3 ?_ | refine o4 ?_ | refine o5 ?_ | refine o6 ?_ | refine k5 ?_ | (intro h; first | exact Bool.noConfusion h | exact nz _ h | exact nl h | (simp at h; done) | (simp at h; first | (exfalso; omega) | skip) | skip) | (change retOk _ _ _ _; refine ret_pure rfl trivial ?_) | exact (rfl : allOne _ = true) | (refine (?_ : (0 : Int) ≤ _); omega) | (refine (?_ : _ ≠ _); omega) | (refine (?_ : srcLen _ = rowsLen _); rfl) | exact Nat.le_of_ble_eq_true rfl | exact (by kernel_rfl : drawOk _ _ = true) | refine eqv_len_map ?_ | refine eqv_size ?_ | refine eqv_put (eqv_ck ?_) | refine eqv_zero ?_ | refine eqv_wrap (by omega) (by omega) ?_ | refine eqv_u64 (by omega) (by omega) ?_ | refine eqv_u8 (by omega) (by omega) ?_ | refine eqv_to _ (set_map rfl rfl) ?_ | refine ⟨_, _, (by first | rfl | assumption), at_map (by assumption), ?_⟩ | refine ⟨_, _, (by first | rfl | assumption), (by assumption), ?_⟩ | refine ⟨_, at_map (by assumption), (by decide), ?_⟩ | refine ⟨_, at_map (by assumption), ?_⟩ | (refine (?_ : _ ≤ 140737488355328); simp [rowsLen] <;> omega) | (refine (?_ : _ ≤ 9223372036854775807); simp [rowsLen] <;> omega) | (refine (?_ : _ = rowsLen _); simp [rowsLen] <;> omega) | refine eqv_to _ (app_row rfl) (eqv_to _ app_len ?_) | refine eqv_to _ (app_first rfl) (eqv_to 1 rfl ?_) | refine idx_sl (at_map (by assumption)) (by omega) ?_ | refine idx_ms _ (by first | rfl | assumption) (by first | assumption | omega) ?_ | (change vcFun _ _ _ _ _; refine call_eq rfl (by repeat' (first | trivial | refine And.intro ?_ ?_ | (show 0 + _ ≤ List.length _; simp))) ALeL.refl (h1) rfl ?_) | fail)
      all_goals first
        | (exfalso; omega)
        | rfl
end Go.Proofs.YtpnghlibmpainaaGreat.Cw

/-
  Contracts: the strain of a student.
-/
namespace Go.Proofs.YtpnghlibmpainaaGreat.Cw
open Go Go.Cw Go.Proofs
set_option linter.unusedVariables false
set_option maxRecDepth 100000
set_option maxHeartbeats 8000000

/-- Sittings of the examinations. -/
def SitsOk (x : Exams) (a : List Nat) : Prop := a.length = x.exams.length ∧ ∀ p ∈ a, p < x.sits.length
def cntRow (s : Str) (a b c : Nat) : List PV := [es s, ei a, ei b, ei c]
theorem c_strain (x : Exams) (a : List Nat) (s : Str) (h : examsE x = 0) (ha : SitsOk x a) (h6 : x.exams.length ≤ 6) : PCall Tryz.prog 67 [ag x.cells, .pv (.sl 1 (a.map eiN)), .pv (es s)] (fun r => r = ag (strainR x a s)) := by
  obtain ⟨hal, has⟩ := ha
  have hf := fine_of h
  refine acall_of tok mixed 69 rfl (fn := Tryz.f67) (c := Tryz.f67.body.getD .skip) (by kernel_rfl) (by kernel_rfl) (by kernel_rfl) rfl 0 rfl ?_
  repeat' (first | refine o1 ?_ | refine o2 ?_ | refine k1 ?_ | refine k2 ?_ | refine k3 ?_ | refine k4 ?_ | refine k6 ?_ | refine k7 ?_ | refine k8 ?_ | refine And.intro ?_ ?_ | exact trivial | refine o3 ?_ | refine o4 ?_ | refine o5 ?_ | refine o6 ?_ | refine k5 ?_ | (intro h; first | exact Bool.noConfusion h | exact nz _ h | exact nl h | (simp at h; done) | (simp at h; first | (exfalso; omega) | skip) | skip) | (change retOk _ _ _ _; refine ret_pure rfl trivial ?_) | exact (rfl : allOne _ = true) | (refine (?_ : (0 : Int) ≤ _); omega) | (refine (?_ : _ ≠ _); omega) | (refine (?_ : srcLen _ = rowsLen _); rfl) | exact Nat.le_of_ble_eq_true rfl | exact (by kernel_rfl : drawOk _ _ = true) | refine eqv_len_map ?_ | refine eqv_size ?_ | refine eqv_put (eqv_ck ?_) | refine eqv_zero ?_ | refine eqv_wrap (by omega) (by omega) ?_ | refine eqv_u64 (by omega) (by omega) ?_ | refine eqv_u8 (by omega) (by omega) ?_ | refine eqv_to _ (set_map rfl rfl) ?_ | refine ⟨_, _, (by first | rfl | assumption), at_map (by assumption), ?_⟩ | refine ⟨_, _, (by first | rfl | assumption), (by assumption), ?_⟩ | refine ⟨_, at_map (by assumption), (by decide), ?_⟩ | refine ⟨_, at_map (by assumption), ?_⟩ | (refine (?_ : _ ≤ 140737488355328); simp [rowsLen] <;> omega) | (refine (?_ : _ ≤ 9223372036854775807); simp [rowsLen] <;> omega) | (refine (?_ : _ = rowsLen _); simp [rowsLen] <;> omega) | refine eqv_to _ (app_row rfl) (eqv_to _ app_len ?_) | refine eqv_to _ (app_first rfl) (eqv_to 1 rfl ?_) | refine idx_sl (at_map (by assumption)) (by omega) ?_ | refine idx_ms _ (by first | rfl | assumption) (by first | assumption | omega) ?_ | fail)
  refine loop_for (fun i : Nat => [(1, .pv (.sl 1 (a.map eiN))), (2, .pv (es s)), (3, .ptr 0 8 0 0), (6, .ptr 1 4 0 0), (7, .ptr 2 4 0 0), (8, slP 3 1 ((mineL x a s i).map eiN)), (16, .pv (.sl 4 (x.exams.map Exam.row))), (17, vint .i64 x.exams.length), (18, vint .i64 i)])
    (fun i => [some ⟨33, 8, false, .box (pvs x.cells)⟩, some ⟨88, 4, false, .box (pvs [.val (.string ⟨#[]⟩), ei 0, ei 0, ei 0])⟩, some ⟨88, 4, false, .box (pvs (cntRow s (totS x a s 2 i) (totS x a s 3 i) (totS x a s 4 i)))⟩, obP 3 1 ((mineL x a s i).map eiN)])
    (fun i => i ≤ x.exams.length) (fun i => x.exams.length - i) 0 (Nat.zero_le _) ?_ ?_
  · exact back [0, 1, 2, 3] rfl rfl (by repeat' (first | exact trivial | exact rfl | exact ren_get rfl | refine kept_ob rfl ?_ | exact ⟨_, rfl, ALe.refl⟩ | refine And.intro ?_ ?_)) (by repeat' (first | exact trivial | exact rfl | exact ren_get rfl | refine kept_ob rfl ?_ | exact ⟨_, rfl, ALe.refl⟩ | refine And.intro ?_ ?_))
  intro i hi
  have hml := mineL_len (x := x) (a := a) (s := s) (i := i)
  have t2 := totS_le (x := x) (a := a) (s := s) (r := 2) (n := i)
  have t3 := totS_le (x := x) (a := a) (s := s) (r := 3) (n := i)
  have t4 := totS_le (x := x) (a := a) (s := s) (r := 4) (n := i)
  have hii : i * i ≤ 6 * 6 := Nat.mul_le_mul (by omega) (by omega)
  rcases Nat.lt_or_ge i x.exams.length with hlt | hge
  · obtain ⟨e, he⟩ := getE hlt
    have hes := (hf.el i e he).1
    obtain ⟨q, hq⟩ := getE (show i < a.length by omega)
    obtain ⟨t, ht⟩ := getE (has q (List.mem_of_getElem? hq))
    have hqd : a.getD i 0 = q := by rw [List.getD_eq_getElem?_getD, hq]; rfl
    have hqe : (a.map eiN)[i]? = some (eiN q) := by rw [List.getElem?_map, hq]; rfl
    have hT : hasS x s i = true → totS x a s 2 (i + 1) = totS x a s 2 i + cntR x q 2 (mineL x a s i) ∧ totS x a s 3 (i + 1) = totS x a s 3 i + cntR x q 3 (mineL x a s i) ∧ totS x a s 4 (i + 1) = totS x a s 4 i + cntR x q 4 (mineL x a s i) := fun h => ⟨by rw [totS_t h, hqd], by rw [totS_t h, hqd], by rw [totS_t h, hqd]⟩
    have hF : ¬ hasS x s i = true → totS x a s 2 (i + 1) = totS x a s 2 i ∧ totS x a s 3 (i + 1) = totS x a s 3 i ∧ totS x a s 4 (i + 1) = totS x a s 4 i := fun h => ⟨totS_f h, totS_f h, totS_f h⟩
    have hMT : hasS x s i = true → (mineL x a s (i + 1)).map eiN = (mineL x a s i).map eiN ++ [eiN q] := fun h => by rw [mineL, if_pos h, hqd, map_snoc]
    have hMF : ¬ hasS x s i = true → mineL x a s (i + 1) = mineL x a s i := fun h => by rw [mineL, if_neg h]
    have hMm : ∀ p ∈ mineL x a s i, ∃ u, x.sits[p]? = some u := fun p hp => by
      obtain ⟨j, hj, rfl⟩ := mineL_mem hp
      obtain ⟨q', hq'⟩ := getE (show j < a.length by omega)
      rw [List.getD_eq_getElem?_getD, hq']
      exact getE (has q' (List.mem_of_getElem? hq'))
    rw [hasS_at he] at hT hF hMT hMF
    generalize totS x a s 2 i = c2 at *
    generalize totS x a s 3 i = c3 at *
    generalize totS x a s 4 i = c4 at *
    generalize mineL x a s i = M at *
    repeat' (first | (refine fv_sl ?_) | (refine fh_ob ?_) | (refine idx_sl (k := i) (at_map he) (by omega) ?_) | (refine o_len rfl rfl rfl rfl rfl rfl (List.length_map _) ?_) | refine o1 ?_ | refine o2 ?_ | refine k1 ?_ | refine k2 ?_ | refine k3 ?_ | refine k4 ?_ | refine k6 ?_ | refine k7 ?_ | refine k8 ?_ | refine And.intro ?_ ?_ | exact trivial | refine o3 ?_ | refine o4 ?_ | refine o5 ?_ | refine o6 ?_ | refine k5 ?_ | (intro h; first | exact Bool.noConfusion h | exact nz _ h | exact nl h | (simp at h; done) | (simp at h; first | (exfalso; omega) | skip) | skip) | (change retOk _ _ _ _; refine ret_pure rfl trivial ?_) | exact (rfl : allOne _ = true) | (refine (?_ : (0 : Int) ≤ _); omega) | (refine (?_ : _ ≠ _); omega) | (refine (?_ : srcLen _ = rowsLen _); rfl) | exact Nat.le_of_ble_eq_true rfl | exact (by kernel_rfl : drawOk _ _ = true) | refine eqv_len_map ?_ | refine eqv_size ?_ | refine eqv_put (eqv_ck ?_) | refine eqv_zero ?_ | refine eqv_wrap (by omega) (by omega) ?_ | refine eqv_u64 (by omega) (by omega) ?_ | refine eqv_u8 (by omega) (by omega) ?_ | refine eqv_to _ (set_map rfl rfl) ?_ | refine ⟨_, _, (by first | rfl | assumption), at_map (by assumption), ?_⟩ | refine ⟨_, _, (by first | rfl | assumption), (by assumption), ?_⟩ | refine ⟨_, at_map (by assumption), (by decide), ?_⟩ | refine ⟨_, at_map (by assumption), ?_⟩ | (refine (?_ : _ ≤ 140737488355328); simp [rowsLen] <;> omega) | (refine (?_ : _ ≤ 9223372036854775807); simp [rowsLen] <;> omega) | (refine (?_ : _ = rowsLen _); simp [rowsLen] <;> omega) | refine eqv_to _ (app_row rfl) (eqv_to _ app_len ?_) | refine eqv_to _ (app_first rfl) (eqv_to 1 rfl ?_) | refine idx_sl (at_map (by assumption)) (by omega) ?_ | refine idx_ms _ (by first | rfl | assumption) (by first | assumption | omega) ?_ | (change vcFun _ _ _ _ _; refine call_eq rfl (by repeat' (first | trivial | refine And.intro ?_ ?_ | (show 0 + _ ≤ List.length _; simp))) ALeL.refl (c_contains e.studs s (by omega)) rfl ?_) | fail)
    · have hns : ¬ pB (s ∈ e.studs) = true := by rw [pB_f (by assumption)]; simp
      obtain ⟨f2, f3, f4⟩ := hF hns
      refine ⟨i + 1, hlt, by omega, ?_⟩
      rw [f2, f3, f4, hMF hns]
      exact back [0, 1, 2, 3] rfl rfl (by repeat' (first | exact trivial | exact rfl | exact ren_get rfl | refine kept_ob rfl ?_ | exact ⟨_, rfl, ALe.refl⟩ | refine And.intro ?_ ?_)) (by repeat' (first | exact trivial | exact rfl | exact ren_get rfl | refine kept_ob rfl ?_ | exact ⟨_, rfl, ALe.refl⟩ | refine And.intro ?_ ?_))
    obtain ⟨f2, f3, f4⟩ := hT (pB_t (by assumption))
    have hMT := hMT (pB_t (by assumption))
    refine loop_for (fun k : Nat => [(1, .pv (.sl 1 (a.map eiN))), (2, .pv (es s)), (3, .ptr 0 8 0 0), (6, .ptr 1 4 0 0), (7, .ptr 2 4 0 0), (8, slP 3 1 (M.map eiN)), (9, vint .i64 i), (16, .pv (.sl 4 (x.exams.map Exam.row))), (17, vint .i64 x.exams.length), (18, vint .i64 i), (28, slP 3 1 (M.map eiN)), (29, vint .i64 M.length), (30, vint .i64 k)])
      (fun k => [some ⟨33, 8, false, .box (pvs x.cells)⟩, some ⟨88, 4, false, .box (pvs [.val (.string ⟨#[]⟩), ei 0, ei 0, ei 0])⟩, some ⟨88, 4, false, .box (pvs (cntRow s (c2 + cntR x q 2 (M.take k)) (c3 + cntR x q 3 (M.take k)) (c4 + cntR x q 4 (M.take k))))⟩, obP 3 1 (M.map eiN)])
      (fun k => k ≤ M.length) (fun k => M.length - k) 0 (Nat.zero_le _) ?_ ?_
    · exact back [0, 1, 2, 3] rfl rfl (by repeat' (first | exact trivial | exact rfl | exact ren_get rfl | refine kept_ob rfl ?_ | exact ⟨_, rfl, ALe.refl⟩ | refine And.intro ?_ ?_)) (by repeat' (first | exact trivial | exact rfl | exact ren_get rfl | refine kept_ob rfl ?_ | exact ⟨_, rfl, ALe.refl⟩ | refine And.intro ?_ ?_))
    intro k hk
    have u2 := cntR_le (x := x) (q := q) (r := 2) (l := M.take k)
    have u3 := cntR_le (x := x) (q := q) (r := 3) (l := M.take k)
    have u4 := cntR_le (x := x) (q := q) (r := 4) (l := M.take k)
    rw [List.length_take] at u2 u3 u4
    rcases Nat.lt_or_ge k M.length with hkl | hkg
    · obtain ⟨p, hp⟩ := getE hkl
      obtain ⟨u, hu⟩ := hMm p (List.mem_of_getElem? hp)
      have hrel := c_relation x p q u t hf hu ht
      have hru := relQ_at hu ht
      have ct2 := cntR_take (x := x) (q := q) (r := 2) hp
      have ct3 := cntR_take (x := x) (q := q) (r := 3) hp
      have ct4 := cntR_take (x := x) (q := q) (r := 4) hp
      have hpe : (M.map eiN)[k]? = some (eiN p) := by rw [List.getElem?_map, hp]; rfl
      obtain ⟨m0, M', hM⟩ : ∃ m0 M', M.map eiN = m0 :: M' := by
        cases M with
        | nil => simp at hkl
        | cons a l => exact ⟨_, _, rfl⟩
      rw [← hru] at hrel
      generalize relQ x p q = R at *
      generalize cntR x q 2 (M.take k) = d2 at *
      generalize cntR x q 3 (M.take k) = d3 at *
      generalize cntR x q 4 (M.take k) = d4 at *
      have hml2 : k < (m0 :: M').length := by rw [← hM, List.length_map]; exact hkl
      rw [hM] at hpe ⊢
      repeat' (first | (refine idx_sl (k := i) hqe (by omega) ?_) | (refine ⟨_, hpe, ?_⟩) | refine o1 ?_ | refine o2 ?_ | refine k1 ?_ | refine k2 ?_ | refine k3 ?_ | refine k4 ?_ | refine k6 ?_ | refine k7 ?_ | refine k8 ?_ | refine And.intro ?_ ?_ | exact trivial | refine o3 ?_ | refine o4 ?_ | refine o5 ?_ | refine o6 ?_ | refine k5 ?_ | (intro h; first | exact Bool.noConfusion h | exact nz _ h | exact nl h | (simp at h; done) | (simp at h; first | (exfalso; omega) | skip) | skip) | (change retOk _ _ _ _; refine ret_pure rfl trivial ?_) | exact (rfl : allOne _ = true) | (refine (?_ : (0 : Int) ≤ _); omega) | (refine (?_ : _ ≠ _); omega) | (refine (?_ : srcLen _ = rowsLen _); rfl) | exact Nat.le_of_ble_eq_true rfl | exact (by kernel_rfl : drawOk _ _ = true) | refine eqv_len_map ?_ | refine eqv_size ?_ | refine eqv_put (eqv_ck ?_) | refine eqv_zero ?_ | refine eqv_wrap (by omega) (by omega) ?_ | refine eqv_u64 (by omega) (by omega) ?_ | refine eqv_u8 (by omega) (by omega) ?_ | refine eqv_to _ (set_map rfl rfl) ?_ | refine ⟨_, _, (by first | rfl | assumption), at_map (by assumption), ?_⟩ | refine ⟨_, _, (by first | rfl | assumption), (by assumption), ?_⟩ | refine ⟨_, at_map (by assumption), (by decide), ?_⟩ | refine ⟨_, at_map (by assumption), ?_⟩ | (refine (?_ : _ ≤ 140737488355328); simp [rowsLen] <;> omega) | (refine (?_ : _ ≤ 9223372036854775807); simp [rowsLen] <;> omega) | (refine (?_ : _ = rowsLen _); simp [rowsLen] <;> omega) | refine eqv_to _ (app_row rfl) (eqv_to _ app_len ?_) | refine eqv_to _ (app_first rfl) (eqv_to 1 rfl ?_) | refine idx_sl (at_map (by assumption)) (by omega) ?_ | refine idx_ms _ (by first | rfl | assumption) (by first | assumption | omega) ?_ | (change vcFun _ _ _ _ _; refine call_eq rfl (by repeat' (first | trivial | refine And.intro ?_ ?_ | (show 0 + _ ≤ List.length _; simp))) ALeL.refl (hrel) rfl ?_) | (change vcFunD _ _ _ _ _; refine callD_eq rfl (by repeat' (first | trivial | refine And.intro ?_ ?_ | (show 0 + _ ≤ List.length _; simp))) ALeL.refl (hrel) rfl ?_) | fail)
      all_goals
        refine ⟨k + 1, hkl, by omega, ?_⟩
        rw [ct2, ct3, ct4]
        first
          | (rw [if_pos (show R = 2 by omega), if_neg (show ¬ R = 3 by omega), if_neg (show ¬ R = 4 by omega)])
          | (rw [if_neg (show ¬ R = 2 by omega), if_pos (show R = 3 by omega), if_neg (show ¬ R = 4 by omega)])
          | (rw [if_neg (show ¬ R = 2 by omega), if_neg (show ¬ R = 3 by omega), if_pos (show R = 4 by omega)])
          | (rw [if_neg (show ¬ R = 2 by omega), if_neg (show ¬ R = 3 by omega), if_neg (show ¬ R = 4 by omega)])
        exact back [0, 1, 2, 3] rfl rfl (by repeat' (first | exact trivial | exact rfl | exact ren_get rfl | refine kept_ob rfl ?_ | exact ⟨_, rfl, ALe.refl⟩ | refine And.intro ?_ ?_)) (by repeat' (first | exact trivial | exact rfl | exact ren_get rfl | refine kept_ob rfl ?_ | exact ⟨_, rfl, ALe.refl⟩ | refine And.intro ?_ ?_))
    · obtain rfl : k = M.length := by omega
      rw [List.take_length]
      repeat' (first | (refine fv_sl ?_) | (refine fh_ob ?_) | (refine idx_sl (k := i) hqe (by omega) ?_) | ((refine o_app rfl rfl rfl rfl rfl rfl rfl rfl rfl rfl rfl (by rw [List.length_map]; omega) (by rw [List.length_map]; omega) ?_)) | refine o1 ?_ | refine o2 ?_ | refine k1 ?_ | refine k2 ?_ | refine k3 ?_ | refine k4 ?_ | refine k6 ?_ | refine k7 ?_ | refine k8 ?_ | refine And.intro ?_ ?_ | exact trivial | refine o3 ?_ | refine o4 ?_ | refine o5 ?_ | refine o6 ?_ | refine k5 ?_ | (intro h; first | exact Bool.noConfusion h | exact nz _ h | exact nl h | (simp at h; done) | (simp at h; first | (exfalso; omega) | skip) | skip) | (change retOk _ _ _ _; refine ret_pure rfl trivial ?_) | exact (rfl : allOne _ = true) | (refine (?_ : (0 : Int) ≤ _); omega) | (refine (?_ : _ ≠ _); omega) | (refine (?_ : srcLen _ = rowsLen _); rfl) | exact Nat.le_of_ble_eq_true rfl | exact (by kernel_rfl : drawOk _ _ = true) | refine eqv_len_map ?_ | refine eqv_size ?_ | refine eqv_put (eqv_ck ?_) | refine eqv_zero ?_ | refine eqv_wrap (by omega) (by omega) ?_ | refine eqv_u64 (by omega) (by omega) ?_ | refine eqv_u8 (by omega) (by omega) ?_ | refine eqv_to _ (set_map rfl rfl) ?_ | refine ⟨_, _, (by first | rfl | assumption), at_map (by assumption), ?_⟩ | refine ⟨_, _, (by first | rfl | assumption), (by assumption), ?_⟩ | refine ⟨_, at_map (by assumption), (by decide), ?_⟩ | refine ⟨_, at_map (by assumption), ?_⟩ | (refine (?_ : _ ≤ 140737488355328); simp [rowsLen] <;> omega) | (refine (?_ : _ ≤ 9223372036854775807); simp [rowsLen] <;> omega) | (refine (?_ : _ = rowsLen _); simp [rowsLen] <;> omega) | refine eqv_to _ (app_row rfl) (eqv_to _ app_len ?_) | refine eqv_to _ (app_first rfl) (eqv_to 1 rfl ?_) | refine idx_sl (at_map (by assumption)) (by omega) ?_ | refine idx_ms _ (by first | rfl | assumption) (by first | assumption | omega) ?_ | fail)
      refine ⟨i + 1, hlt, by omega, ?_⟩
      rw [f2, f3, f4, hMT, sl_app, ob_app]
      exact back [0, 1, 2, 5] rfl rfl (by repeat' (first | exact trivial | exact rfl | exact ren_get rfl | refine kept_ob rfl ?_ | exact ⟨_, rfl, ALe.refl⟩ | refine And.intro ?_ ?_)) (by repeat' (first | exact trivial | exact rfl | exact ren_get rfl | refine kept_ob rfl ?_ | exact ⟨_, rfl, ALe.refl⟩ | refine And.intro ?_ ?_))
  · obtain rfl : i = x.exams.length := by omega
    repeat' (first | (refine fv_sl ?_) | (refine fh_ob ?_) | refine o1 ?_ | refine o2 ?_ | refine k1 ?_ | refine k2 ?_ | refine k3 ?_ | refine k4 ?_ | refine k6 ?_ | refine k7 ?_ | refine k8 ?_ | refine And.intro ?_ ?_ | exact trivial | refine o3 ?_ | refine o4 ?_ | refine o5 ?_ | refine o6 ?_ | refine k5 ?_ | (intro h; first | exact Bool.noConfusion h | exact nz _ h | exact nl h | (simp at h; done) | (simp at h; first | (exfalso; omega) | skip) | skip) | (change retOk _ _ _ _; refine ret_pure rfl trivial ?_) | exact (rfl : allOne _ = true) | (refine (?_ : (0 : Int) ≤ _); omega) | (refine (?_ : _ ≠ _); omega) | (refine (?_ : srcLen _ = rowsLen _); rfl) | exact Nat.le_of_ble_eq_true rfl | exact (by kernel_rfl : drawOk _ _ = true) | refine eqv_len_map ?_ | refine eqv_size ?_ | refine eqv_put (eqv_ck ?_) | refine eqv_zero ?_ | refine eqv_wrap (by omega) (by omega) ?_ | refine eqv_u64 (by omega) (by omega) ?_ | refine eqv_u8 (by omega) (by omega) ?_ | refine eqv_to _ (set_map rfl rfl) ?_ | refine ⟨_, _, (by first | rfl | assumption), at_map (by assumption), ?_⟩ | refine ⟨_, _, (by first | rfl | assumption), (by assumption), ?_⟩ | refine ⟨_, at_map (by assumption), (by decide), ?_⟩ | refine ⟨_, at_map (by assumption), ?_⟩ | (refine (?_ : _ ≤ 140737488355328); simp [rowsLen] <;> omega) | (refine (?_ : _ ≤ 9223372036854775807); simp [rowsLen] <;> omega) | (refine (?_ : _ = rowsLen _); simp [rowsLen] <;> omega) | refine eqv_to _ (app_row rfl) (eqv_to _ app_len ?_) | refine eqv_to _ (app_first rfl) (eqv_to 1 rfl ?_) | refine idx_sl (at_map (by assumption)) (by omega) ?_ | refine idx_ms _ (by first | rfl | assumption) (by first | assumption | omega) ?_ | fail)
    exact rfl
end Go.Proofs.YtpnghlibmpainaaGreat.Cw

/-
  Plain: models that are built from the seats of classes: pairs by a table of entries, counts.
-/
namespace Go.Proofs.YtpnghlibmpainaaGreat.Cw
open Go.Cw Go.Proofs
set_option linter.unusedVariables false
set_option maxRecDepth 100000

/-- Lists one behind the other. -/
def gr {α : Type} (F : Nat → List α) (i : Nat) : List α := (List.range i).flatMap F
theorem gr_zero {α : Type} {F : Nat → List α} : gr F 0 = [] := rfl
theorem gr_succ {α : Type} {F : Nat → List α} {i : Nat} : gr F (i + 1) = gr F i ++ F i := by
  unfold gr; rw [List.range_succ, List.flatMap_append]; simp
theorem gr_len {α : Type} {F : Nat → List α} {m : Nat} (h : ∀ i, (F i).length ≤ m) : ∀ i, (gr F i).length ≤ i * m
  | 0 => by simp [gr]
  | i + 1 => by rw [gr_succ, List.length_append, Nat.succ_mul]; have := gr_len h i; have := h i; omega
theorem take_snoc {α : Type} {l : List α} {k : Nat} {x : α} (h : l[k]? = some x) : l.take (k + 1) = l.take k ++ [x] := by
  obtain ⟨h1, h2⟩ := List.getElem?_eq_some_iff.1 h
  rw [List.take_succ_eq_append_getElem h1, h2]
theorem gr_next {α : Type} {F : Nat → List α} {i k : Nat} {x : α} (h : (F i)[k]? = some x) : gr F i ++ (F i).take (k + 1) = gr F i ++ (F i).take k ++ [x] := by rw [take_snoc h, List.append_assoc]
theorem gr_all {α : Type} {F : Nat → List α} {i k : Nat} (h : (F i).length ≤ k) : gr F i ++ (F i).take k = gr F (i + 1) := by rw [List.take_of_length_le h, gr_succ]
theorem gr_none {α : Type} {F : Nat → List α} {i : Nat} : gr F i ++ (F i).take 0 = gr F i := by simp
theorem gr_mem {α : Type} {F : Nat → List α} {n : Nat} {y : α} : y ∈ gr F n ↔ ∃ i, i < n ∧ y ∈ F i := by
  unfold gr
  simp [List.mem_flatMap, List.mem_range]
/-- The elements at places, of those that there are. -/
def upto {α β : Type} (l : List α) (f : Nat → α → Option β) (n : Nat) : List β := (List.range n).filterMap fun i => (l[i]?).bind (f i)
theorem upto_zero {α β : Type} {l : List α} {f : Nat → α → Option β} : upto l f 0 = [] := rfl
theorem upto_some {α β : Type} {l : List α} {f : Nat → α → Option β} {n : Nat} {x : α} {y : β} (h : l[n]? = some x) (hf : f n x = some y) : upto l f (n + 1) = upto l f n ++ [y] := by
  unfold upto
  rw [List.range_succ, List.filterMap_append]
  simp [h, hf]
theorem upto_none {α β : Type} {l : List α} {f : Nat → α → Option β} {n : Nat} {x : α} (h : l[n]? = some x) (hf : f n x = none) : upto l f (n + 1) = upto l f n := by
  unfold upto
  rw [List.range_succ, List.filterMap_append]
  simp [h, hf]
theorem upto_len {α β : Type} {l : List α} {f : Nat → α → Option β} {n : Nat} : (upto l f n).length ≤ n := by
  unfold upto
  exact Nat.le_trans (List.length_filterMap_le ..) (by simp)
theorem upto_mem {α β : Type} {l : List α} {f : Nat → α → Option β} {n : Nat} {y : β} : y ∈ upto l f n ↔ ∃ i x, i < n ∧ l[i]? = some x ∧ f i x = some y := by
  unfold upto
  rw [List.mem_filterMap]
  constructor
  · rintro ⟨i, hi, h⟩
    obtain ⟨x, h1, h2⟩ := Option.bind_eq_some_iff.1 h
    exact ⟨i, x, List.mem_range.1 hi, h1, h2⟩
  · rintro ⟨i, x, hi, h1, h2⟩
    exact ⟨i, List.mem_range.2 hi, by rw [h1]; exact h2⟩

structure Seat where
  (sit room : Nat)
def Seat.row (s : Seat) : List PV := [ei (s.sit : Int), ei (s.room : Int)]
def seatsRow (l : List Seat) : List PV := [.sl 2 (l.map Seat.row)]
/-- What a class's seats cost beside another one's. -/
abbrev Ent := Nat → Nat → Nat → Seat → Seat → Int
def rowS (E : Ent) (u i k : Nat) (A B : List Seat) (a : Nat) : List Int := match A[a]? with
  | some s => B.map (E u i k s)
  | none => []
def tabS (E : Ent) (u i k : Nat) (A B : List Seat) : List Int := gr (rowS E u i k A B) A.length
theorem rowS_at {E : Ent} {u i k : Nat} {A B : List Seat} {a : Nat} {s : Seat} (h : A[a]? = some s) : rowS E u i k A B a = B.map (E u i k s) := by unfold rowS; rw [h]
theorem rowS_len {E : Ent} {u i k : Nat} {A B : List Seat} {a : Nat} : (rowS E u i k A B a).length ≤ B.length := by
  unfold rowS; split
  · rw [List.length_map]; exact Nat.le_refl _
  · exact Nat.zero_le _
theorem rowS_get {E : Ent} {u i k : Nat} {A B : List Seat} {a b : Nat} {s t : Seat} (h : A[a]? = some s) (hq : B[b]? = some t) : (rowS E u i k A B a)[b]? = some (E u i k s t) := by
  rw [rowS_at h, List.getElem?_map, hq]; rfl
theorem grl {F : Nat → List Int} {m : Nat} : ∀ n, (∀ i, i < n → (F i).length = m) → (gr F n).length = n * m
  | 0, _ => by simp [gr]
  | n + 1, h => by rw [gr_succ, List.length_append, grl n fun i hi => h i (by omega), h n (by omega), Nat.succ_mul]
theorem tabS_len {E : Ent} {u i k : Nat} {A B : List Seat} : (tabS E u i k A B).length = A.length * B.length := grl _ fun a ha => by
  obtain ⟨s, hs⟩ : ∃ s, A[a]? = some s := ⟨_, List.getElem?_eq_getElem ha⟩
  rw [rowS_at hs, List.length_map]
def pairS (S : List (List Seat)) (E : Ent) (u i k : Nat) : Option Pair := match S[i]?, S[k]? with
  | some A, some B => if i < k ∧ (tabS E u i k A B).any (fun n => n != 0) = true then some ⟨i, k, u, tabS E u i k A B⟩ else none
  | _, _ => none
def prsI (S : List (List Seat)) (E : Ent) (u i m : Nat) : List Pair := (List.range m).filterMap (pairS S E u i)
theorem prsI_len {S : List (List Seat)} {E : Ent} {u i m : Nat} : (prsI S E u i m).length ≤ m := by
  unfold prsI; exact Nat.le_trans (List.length_filterMap_le ..) (by simp)
theorem prsI_succ {S : List (List Seat)} {E : Ent} {u i m : Nat} : prsI S E u i (m + 1) = prsI S E u i m ++ (pairS S E u i m).toList := by
  unfold prsI; rw [List.range_succ, List.filterMap_append]
  cases h : pairS S E u i m <;> simp [h]
theorem prsI_none {S : List (List Seat)} {E : Ent} {u i m : Nat} (h : pairS S E u i m = none) : prsI S E u i (m + 1) = prsI S E u i m := by rw [prsI_succ, h]; simp
theorem prsI_some {S : List (List Seat)} {E : Ent} {u i m : Nat} {p : Pair} (h : pairS S E u i m = some p) : prsI S E u i (m + 1) = prsI S E u i m ++ [p] := by rw [prsI_succ, h]; simp
theorem prsI_begin {S : List (List Seat)} {E : Ent} {u i : Nat} : ∀ {m : Nat}, m ≤ i + 1 → prsI S E u i m = []
  | 0, _ => rfl
  | m + 1, h => by
    have e : pairS S E u i m = none := by
      unfold pairS
      split
      · exact if_neg (by omega)
      · rfl
    rw [prsI_none e, prsI_begin (by omega)]
def prsU (S : List (List Seat)) (E : Ent) (u : Nat) : List Pair := gr (fun u => gr (fun i => prsI S E u i S.length) S.length) u
def prsUi (S : List (List Seat)) (E : Ent) (u i : Nat) : List Pair := prsU S E u ++ gr (fun i => prsI S E u i S.length) i
def prsUk (S : List (List Seat)) (E : Ent) (u i k : Nat) : List Pair := prsUi S E u i ++ prsI S E u i k
section
variable {S : List (List Seat)} {E : Ent} {u i k : Nat}
theorem prsUi_zero : prsUi S E u 0 = prsU S E u := by unfold prsUi; rw [gr_zero, List.append_nil]
theorem prsUi_all : prsUi S E u S.length = prsU S E (u + 1) := by unfold prsUi prsU; rw [gr_succ]
theorem prsUk_begin : prsUk S E u i (i + 1) = prsUi S E u i := by unfold prsUk; rw [prsI_begin (Nat.le_refl _), List.append_nil]
theorem prsUk_all : prsUk S E u i S.length = prsUi S E u (i + 1) := by unfold prsUk prsUi; rw [gr_succ, List.append_assoc]
theorem prsUk_none (h : pairS S E u i k = none) : prsUk S E u i (k + 1) = prsUk S E u i k := by unfold prsUk; rw [prsI_none h]
theorem prsUk_some {p : Pair} (h : pairS S E u i k = some p) : prsUk S E u i (k + 1) = prsUk S E u i k ++ [p] := by unfold prsUk; rw [prsI_some h, List.append_assoc]
theorem prsU_len : (prsU S E u).length ≤ u * (S.length * S.length) := gr_len (fun u => gr_len (fun i => prsI_len) _) u
theorem prsUk_len (hi : i ≤ S.length) (hk : k ≤ S.length) : (prsUk S E u i k).length ≤ (u + 1) * (S.length * S.length) + S.length := by
  have h1 := prsU_len (S := S) (E := E) (u := u)
  have h2 := gr_len (F := fun i => prsI S E u i S.length) (m := S.length) (fun i => prsI_len) i
  have h3 : i * S.length ≤ S.length * S.length := Nat.mul_le_mul hi (Nat.le_refl _)
  have h4 := prsI_len (S := S) (E := E) (u := u) (i := i) (m := k)
  unfold prsUk prsUi
  rw [List.length_append, List.length_append, Nat.succ_mul]
  omega
end
theorem any_snoc {T : List Int} {e : Int} : ((T ++ [e]).any fun n => n != 0) = ((T.any fun n => n != 0) || (e != 0)) := by simp

/-- Loads of the classes that have a seat. -/
def seatIs (s r : Nat) (q : Seat) : Bool := decide (q.sit = s) && decide (q.room = r)
def loadF (W : Nat → Int) (s r : Nat) : Nat → List Seat → Option Load := fun i A => (A.findIdx? (seatIs s r)).map fun (k : Nat) => (⟨(i : Int), (k : Int), W i⟩ : Load)
def loadsS (S : List (List Seat)) (W : Nat → Int) (s r m : Nat) : List Load := upto S (loadF W s r) m
def countS (S : List (List Seat)) (W : Nat → Int) (most : Nat → Int) (s r : Nat) : Option Count := if 1 < (loadsS S W s r S.length).length then some ⟨1, loadsS S W s r S.length, most r, 1099511627776⟩ else none
def cntI (S : List (List Seat)) (W : Nat → Int) (most : Nat → Int) (s m : Nat) : List Count := (List.range m).filterMap (countS S W most s)
def cntS (S : List (List Seat)) (W : Nat → Int) (most : Nat → Int) (R s : Nat) : List Count := gr (fun s => cntI S W most s R) s
section
variable {S : List (List Seat)} {W most : Nat → Int} {R s m : Nat}
theorem cntI_len : (cntI S W most s m).length ≤ m := by
  unfold cntI; exact Nat.le_trans (List.length_filterMap_le ..) (by simp)
theorem cntI_succ : cntI S W most s (m + 1) = cntI S W most s m ++ (countS S W most s m).toList := by
  unfold cntI; rw [List.range_succ, List.filterMap_append]
  cases h : countS S W most s m <;> simp [h]
theorem cntI_none (h : countS S W most s m = none) : cntI S W most s (m + 1) = cntI S W most s m := by rw [cntI_succ, h]; simp
theorem cntI_some {c : Count} (h : countS S W most s m = some c) : cntI S W most s (m + 1) = cntI S W most s m ++ [c] := by rw [cntI_succ, h]; simp
theorem cntS_len : (cntS S W most R s).length ≤ s * R := gr_len (fun s => cntI_len) s
end
end Go.Proofs.YtpnghlibmpainaaGreat.Cw

/-
  Plain: a model that is built from seats is valid.
-/
namespace Go.Proofs.YtpnghlibmpainaaGreat.Cw
open Go.Cw Go.Proofs
set_option linter.unusedVariables false
set_option maxRecDepth 100000

theorem gr_pw {α : Type} {R : α → α → Prop} {F : Nat → List α} : ∀ n, (∀ i, i < n → (F i).Pairwise R) → (∀ i j, i < j → j < n → ∀ x ∈ F i, ∀ y ∈ F j, R x y) → (gr F n).Pairwise R
  | 0, _, _ => List.Pairwise.nil
  | n + 1, h1, h2 => by
    rw [gr_succ]
    refine List.pairwise_append.2 ⟨gr_pw n (fun i hi => h1 i (by omega)) fun i j hij hj => h2 i j hij (by omega), h1 n (by omega), fun x hx y hy => ?_⟩
    obtain ⟨i, hi, hx⟩ := gr_mem.1 hx
    exact h2 i n hi (by omega) x hx y hy
theorem fm_mem {α : Type} {f : Nat → Option α} {m : Nat} {p : α} : p ∈ (List.range m).filterMap f ↔ ∃ k, k < m ∧ f k = some p := by
  rw [List.mem_filterMap]
  constructor
  · rintro ⟨k, hk, h⟩; exact ⟨k, List.mem_range.1 hk, h⟩
  · rintro ⟨k, hk, h⟩; exact ⟨k, List.mem_range.2 hk, h⟩
theorem fm_pw {α : Type} {R : α → α → Prop} {f : Nat → Option α} (h : ∀ i j x y, i < j → f i = some x → f j = some y → R x y) : ∀ m, ((List.range m).filterMap f).Pairwise R
  | 0 => List.Pairwise.nil
  | m + 1 => by
    rw [List.range_succ, List.filterMap_append]
    refine List.pairwise_append.2 ⟨fm_pw h m, ?_, fun x hx y hy => ?_⟩
    · cases hf : f m <;> simp [hf]
    · obtain ⟨i, hi, hx⟩ := fm_mem.1 hx
      cases hf : f m with
      | none => simp [hf] at hy
      | some z =>
        simp [hf] at hy
        subst hy
        exact h i m x y hi hx hf
section
variable {S : List (List Seat)} {E : Ent} {u i k : Nat} {p : Pair}
theorem pairS_at (h : pairS S E u i k = some p) : i < k ∧ ∃ A B, S[i]? = some A ∧ S[k]? = some B ∧ p = ⟨i, k, u, tabS E u i k A B⟩ := by
  unfold pairS at h
  split at h
  · rename_i A B hA hB
    split at h
    · rename_i hc
      injection h with h
      exact ⟨hc.1, A, B, hA, hB, h.symm⟩
    · cases h
  · cases h
theorem prs_mem (h : p ∈ prsU S E u) : ∃ v i k A B, v < u ∧ i < k ∧ S[i]? = some A ∧ S[k]? = some B ∧ p = ⟨(i : Nat), (k : Nat), (v : Nat), tabS E v i k A B⟩ := by
  obtain ⟨v, hv, h⟩ := gr_mem.1 h
  obtain ⟨i, -, h⟩ := gr_mem.1 h
  obtain ⟨k, -, h⟩ := fm_mem.1 h
  obtain ⟨h1, A, B, h2, h3, h4⟩ := pairS_at h
  exact ⟨v, i, k, A, B, hv, h1, h2, h3, h4⟩
end
/-- What makes a built model valid. -/
structure BuildOk (C : List (List Opt)) (S : List (List Seat)) (E : Ent) (W most : Nat → Int) (R n : Nat) : Prop where
  cls : S.length ≤ 24
  opt : ∀ A ∈ S, A.length ≤ 24
  same : C.length = S.length
  lens : ∀ (i : Nat) (l : List Opt) (A : List Seat), C[i]? = some l → S[i]? = some A → l.length = A.length
  chg : ∀ l ∈ C, ∀ o ∈ l, o.charges = [] ∨ ∃ c, o.charges = [⟨5, c⟩] ∧ 1 ≤ c ∧ c ≤ 1048576
  ent : ∀ u i k s t, u < 7 → E u i k s t = 0 ∨ priceP (E u i k s t)
  wt : ∀ i, i < S.length → 1 ≤ W i ∧ W i ≤ 1000
  mst : ∀ k, k < R → 0 ≤ most k ∧ most k ≤ 1048576
  cnt : n * R ≤ 800
end Go.Proofs.YtpnghlibmpainaaGreat.Cw

/-
  Plain: the model of examinations.
-/
namespace Go.Proofs.YtpnghlibmpainaaGreat.Cw
open Go.Cw Go.Proofs
set_option linter.unusedVariables false
set_option maxRecDepth 100000

def apartB (l : List Time) (t : Time) : Prop := ∀ x ∈ l, ¬ ovP x t
def fitX (r : Room) (e : Exam) : Prop := (∀ f ∈ e.feats, f ∈ r.feats) ∧ (e.studs.length : Int) ≤ r.seats
def suitP (e : Exam) (r : Room) (s : Sitting) : Prop := e.len ≤ s.len ∧ fitX r e ∧ apartB r.closed (timeOf s)
noncomputable def seatF (e : Exam) (i : Nat) (s : Sitting) : Nat → Room → Option Seat := fun k r => if pB (suitP e r s) then some ⟨i, k⟩ else none
noncomputable def seatsI (x : Exams) (e : Exam) (i : Nat) : List Seat := match x.sits[i]? with
  | some s => upto x.rooms (seatF e i s) x.rooms.length
  | none => []
noncomputable def seatsV (x : Exams) (e : Exam) : List Seat := gr (seatsI x e) x.sits.length
noncomputable def optS (x : Exams) (q : Seat) : Opt := match x.sits[q.sit]? with
  | some t => ⟨⟨timeOf t, q.room⟩, if 0 < t.cost then [⟨5, t.cost⟩] else []⟩
  | none => ⟨⟨⟨0, 0, 0, 0⟩, 0⟩, []⟩
/-- An option as_ it is built: no charges are nil. -/
def optB (o : Opt) : List PV := [ei o.place.time.weeks, ei o.place.time.day, ei o.place.time.start, ei o.place.time.len, ei o.place.room, match o.charges with
  | [] => .val (.slice none 0 0)
  | c :: l => .sl 2 ((c :: l).map Charge.row)]
theorem le_optB {l : List Opt} : PLeLL (l.map optB) (l.map Opt.row) := PLeLL.map fun o _ => by
  refine ⟨PLe.refl, PLe.refl, PLe.refl, PLe.refl, PLe.refl, ?_, trivial⟩
  cases o.charges with
  | nil => exact PLe.nil
  | cons c l => exact PLe.refl
noncomputable def entC (x : Exams) (u : Nat) (a b : Seat) (s t : Sitting) (e f : Exam) : Int :=
  if u = 0 ∧ 0 < comN e.studs f.studs ∧ relE x a.sit b.sit s t = 0 then 1099511627776
  else if u = 1 ∧ a.room = b.room ∧ a.sit ≠ b.sit ∧ relE x a.sit b.sit s t = 0 then 1099511627776
  else if u = 6 ∧ (a.sit = b.sit ∧ a.room = b.room) ∧ e.len ≠ f.len then x.gaps.mixed
  else if (u : Int) ≠ relE x a.sit b.sit s t then 0
  else if u = 2 then comN e.studs f.studs * x.gaps.row
  else if u = 3 then comN e.studs f.studs * x.gaps.day
  else if u = 4 then comN e.studs f.studs * x.gaps.near
  else 0
noncomputable def entX (x : Exams) : Ent := fun u i k a b => match x.sits[a.sit]?, x.sits[b.sit]?, x.exams[i]?, x.exams[k]? with
  | some s, some t, some e, some f => entC x u a b s t e f
  | _, _, _, _ => 0
theorem entX_at {x : Exams} {u i k : Nat} {a b : Seat} {s t : Sitting} {e f : Exam} (h1 : x.sits[a.sit]? = some s) (h2 : x.sits[b.sit]? = some t) (h3 : x.exams[i]? = some e) (h4 : x.exams[k]? = some f) : entX x u i k a b = entC x u a b s t e f := by
  unfold entX; rw [h1, h2, h3, h4]
theorem comN_len {a b : List Str} : comN a b ≤ a.length := List.countP_le_length
theorem gaps_ok {x : Exams} (h : examsE x = 0) : (0 ≤ x.gaps.row ∧ x.gaps.row ≤ 1000) ∧ (0 ≤ x.gaps.day ∧ x.gaps.day ≤ 1000) ∧ (0 ≤ x.gaps.near ∧ x.gaps.near ≤ 1000) ∧ (0 ≤ x.gaps.mixed ∧ x.gaps.mixed ≤ 1000) := by
  unfold examsE at h
  (repeat' split at h) <;> first | omega | skip
  all_goals
    unfold gapsE at h
    split at h
    · rename_i g; exact ⟨g.1, g.2.1, g.2.2.1, g.2.2.2.1⟩
    · cases h
theorem mul_price {n : Nat} {g : Int} (hn : n ≤ 64) (hg : 0 ≤ g ∧ g ≤ 1000) : (n : Int) * g = 0 ∨ priceP ((n : Int) * g) := by
  by_cases h : (n : Int) * g = 0
  · exact .inl h
  · refine .inr (.inl ⟨?_, ?_⟩)
    · have : 0 ≤ (n : Int) * g := Int.mul_nonneg (by omega) hg.1
      omega
    · have : (n : Int) * g ≤ 64 * 1000 := Int.mul_le_mul (by omega) hg.2 hg.1 (by decide)
      omega
theorem entC_ok {x : Exams} {u : Nat} {a b : Seat} {s t : Sitting} {e f : Exam} (h : examsE x = 0) (he : e.studs.length ≤ 64) : entC x u a b s t e f = 0 ∨ priceP (entC x u a b s t e f) := by
  obtain ⟨g1, g2, g3, g4⟩ := gaps_ok h
  have hn := comN_len (a := e.studs) (b := f.studs)
  unfold entC
  (repeat' split)
  · exact .inr (.inr rfl)
  · exact .inr (.inr rfl)
  · by_cases hm : x.gaps.mixed = 0
    · exact .inl hm
    · exact .inr (.inl ⟨by omega, by omega⟩)
  · exact .inl rfl
  · exact mul_price (by omega) g1
  · exact mul_price (by omega) g2
  · exact mul_price (by omega) g3
  · exact .inl rfl
theorem entX_ok {x : Exams} {u i k : Nat} {a b : Seat} (h : examsE x = 0) : entX x u i k a b = 0 ∨ priceP (entX x u i k a b) := by
  unfold entX
  split
  · rename_i s t e f _ _ he _
    exact entC_ok h ((fine_of h).el _ e he).1
  · exact .inl rfl
theorem entX_lo {x : Exams} {u i k : Nat} {a b : Seat} (h : examsE x = 0) : 0 ≤ entX x u i k a b ∧ entX x u i k a b ≤ 1099511627776 := by
  rcases entX_ok (u := u) (i := i) (k := k) (a := a) (b := b) h with e | e | e <;> omega
noncomputable def setsX (x : Exams) : List (List Seat) := x.exams.map (seatsV x)
noncomputable def clsX (x : Exams) : List (List Opt) := x.exams.map fun e => (seatsV x e).map (optS x)
def wtX (x : Exams) (i : Nat) : Int := match x.exams[i]? with
  | some e => e.studs.length
  | none => 0
def mostX (x : Exams) (k : Nat) : Int := match x.rooms[k]? with
  | some r => r.seats
  | none => 0
noncomputable def sizeE (x : Exams) (i : Nat) : Int := match x.exams[i]? with
  | some e => if 24 < (seatsV x e).length then 2 else 0
  | none => 0
noncomputable def buildE (x : Exams) : Int := if examsE x ≠ 0 then examsE x else firstE (sizeE x) x.exams.length
noncomputable def buildM (x : Exams) : Model := if buildE x = 0 then ⟨clsX x, prsU (setsX x) (entX x) 7, cntS (setsX x) (wtX x) (mostX x) x.rooms.length x.sits.length, 7⟩ else ⟨[], [], [], 0⟩
theorem sizeE_at {x : Exams} {i : Nat} {e : Exam} (h : x.exams[i]? = some e) : sizeE x i = if 24 < (seatsV x e).length then 2 else 0 := by unfold sizeE; rw [h]
theorem build_z {x : Exams} (h : buildE x = 0) : examsE x = 0 ∧ ∀ e ∈ x.exams, (seatsV x e).length ≤ 24 := by
  unfold buildE at h
  split at h
  · rename_i h1; exact absurd h h1
  · rename_i h1
    refine ⟨Classical.byContradiction fun k => h1 k, fun e he => ?_⟩
    obtain ⟨i, hi⟩ := List.getElem?_of_mem he
    have := firstE_zero_iff.1 h i (List.getElem?_eq_some_iff.1 hi).1
    rw [sizeE_at hi] at this
    split at this
    · cases this
    · omega
theorem rooms_ok {x : Exams} (h : examsE x = 0) : roomsE x.rooms g20 20 = 0 := by
  unfold examsE at h
  split at h
  · rename_i h1; exact absurd h h1
  · rename_i h1; exact Classical.byContradiction fun k => h1 k
theorem sits_ok {x : Exams} (h : examsE x = 0) : sitsE x.sits = 0 := by
  unfold examsE at h
  (repeat' split at h) <;> first | (exfalso; omega) | skip
  all_goals first
    | (rename_i h1; exact absurd h h1)
    | (rename_i h1; exact Classical.byContradiction fun k => h1 k)
end Go.Proofs.YtpnghlibmpainaaGreat.Cw

/-
  Contracts: rooms that are open, and suit an exam.
-/
namespace Go.Proofs.YtpnghlibmpainaaGreat.Cw
open Go.Cw Go.Proofs
set_option linter.unusedVariables false
set_option maxRecDepth 100000
set_option maxHeartbeats 8000000

theorem vb {b c : Bool} (h : c = b) : AV.pv (.val (.bool b)) = vbool c := by rw [h]; rfl
theorem c_clear (l : List Time) (t : Time) (hl : l.length ≤ 100000) : PCall Tryz.prog 167 [.pv (encTimes l), ag t.row] (fun r => r = vbool (pB (apartB l t))) := by
  refine acall_of tok mixed 18 rfl (fn := Tryz.f167) (c := Tryz.f167.body.getD .skip) (by kernel_rfl) (by kernel_rfl) (by kernel_rfl) rfl 0 rfl ?_
  repeat' (first | refine o1 ?_ | refine o2 ?_ | refine k1 ?_ | refine k2 ?_ | refine k4 ?_ | fail)
  refine loop_at (fun i : Nat => [(5, vint .i64 i)]) (fun _ => []) (fun i => i ≤ l.length ∧ ∀ j, j < i → ∀ x, l[j]? = some x → ¬ ovP x t) (fun i => l.length - i) 0 ⟨by omega, fun j hj => by omega⟩ (by repeat' (first | exact trivial | exact ⟨_, rfl, ALe.refl⟩ | refine And.intro ?_ ?_)) (by repeat' (first | exact trivial | exact rfl | refine And.intro ?_ ?_)) ?_
  intro i ⟨hi, hall⟩
  rcases Nat.lt_or_ge i l.length with hlt | hge
  · obtain ⟨x, hx⟩ := getE hlt
    repeat' (first | refine o1 ?_ | refine o2 ?_ | refine k1 ?_ | refine k2 ?_ | refine k3 ?_ | refine k4 ?_ | refine k6 ?_ | refine k7 ?_ | refine And.intro ?_ ?_ | refine o3 ?_ | refine o4 ?_ | (intro h; first | exact Bool.noConfusion h | exact nz _ h | exact nl h | (simp at h; done) | (simp at h; first | (exfalso; omega) | skip) | skip) | (change retOk _ _ _ _; refine ret_pure rfl trivial ?_) | exact (by kernel_rfl : drawOk _ _ = true) | refine eqv_len_map ?_ | refine eqv_wrap (by omega) (by omega) ?_ | refine ⟨_, _, (by first | rfl | assumption), at_map (by assumption), ?_⟩ | (change vcFunD _ _ _ _ _; refine callD_eq rfl (by repeat' (first | trivial | refine And.intro ?_ ?_ | (show 0 + _ ≤ List.length _; simp))) ALeL.refl (c_roverlap x t) rfl ?_) | fail)
    all_goals first
      | exact vb (pB_f fun h => h x (List.mem_of_getElem? hx) (by assumption))
      | exact ⟨i + 1, ⟨by omega, all_lt_succ hall fun y hy => by rw [hx] at hy; cases hy; assumption⟩, by omega, back [0] rfl rfl ⟨rfl, trivial⟩ (by repeat' (first | exact trivial | exact rfl | refine And.intro ?_ ?_))⟩
  · repeat' (first | refine o1 ?_ | refine o2 ?_ | refine k1 ?_ | refine k2 ?_ | refine k3 ?_ | refine k7 ?_ | refine k8 ?_ | refine And.intro ?_ ?_ | (intro h; first | exact Bool.noConfusion h | exact nz _ h | exact nl h | (simp at h; done) | (simp at h; first | (exfalso; omega) | skip) | skip) | (change retOk _ _ _ _; refine ret_pure rfl trivial ?_) | refine eqv_len_map ?_ | fail)
    exact vb (pB_t fun x hm => by obtain ⟨j, hj⟩ := List.getElem?_of_mem hm; exact hall j (by have := (List.getElem?_eq_some_iff.1 hj).1; omega) x hj)

theorem c_ropen (r : Room) (t : Time) (hr : r.closed.length ≤ 100000) : PCall Tryz.prog 136 [ag r.row, ag t.row] (fun a => a = vbool (pB (apartB r.closed t))) := by
  refine acall_of tok mixed 9 rfl (fn := Tryz.f136) (c := Tryz.f136.body.getD .skip) (by kernel_rfl) (by kernel_rfl) (by kernel_rfl) rfl 0 rfl ?_
  repeat' (first | refine o1 ?_ | refine o2 ?_ | refine k1 ?_ | refine k2 ?_ | refine k7 ?_ | (change retOk _ _ _ _; refine ret_pure rfl trivial ?_) | (change vcFun _ _ _ _ _; refine call_eq rfl (by repeat' (first | trivial | refine And.intro ?_ ?_ | (show 0 + _ ≤ List.length _; simp))) ALeL.refl (c_clear r.closed t hr) rfl ?_) | fail)
  rfl
theorem c_suits (e : Exam) (r : Room) (s : Sitting) (hr : r.feats.length ≤ 100000) (hc : r.closed.length ≤ 100000) (he : e.feats.length ≤ 100000) : PCall Tryz.prog 93 [ag e.row, ag r.row, ag s.row] (fun a => a = vbool (pB (suitP e r s))) := by
  refine acall_of tok mixed 44 rfl (fn := Tryz.f93) (c := Tryz.f93.body.getD .skip) (by kernel_rfl) (by kernel_rfl) (by kernel_rfl) rfl 0 rfl ?_
  repeat' (first | refine o1 ?_ | refine o2 ?_ | refine k1 ?_ | refine k2 ?_ | refine k3 ?_ | refine k4 ?_ | refine k6 ?_ | refine k7 ?_ | refine And.intro ?_ ?_ | refine o3 ?_ | refine o4 ?_ | (intro h; first | exact Bool.noConfusion h | exact nz _ h | exact nl h | (simp at h; done) | (simp at h; first | (exfalso; omega) | skip) | skip) | (change retOk _ _ _ _; refine ret_pure rfl trivial ?_) | exact (by kernel_rfl : drawOk _ _ = true) | refine eqv_len_map ?_ | (change vcFunD _ _ _ _ _; refine callD_eq rfl (by repeat' (first | trivial | refine And.intro ?_ ?_ | (show 0 + _ ≤ List.length _; simp))) ALeL.refl (c_rtime s) rfl ?_) | (change vcFunD _ _ _ _ _; refine callD_eq rfl (by repeat' (first | trivial | refine And.intro ?_ ?_ | (show 0 + _ ≤ List.length _; simp))) ALeL.refl (c_ropen r (timeOf s) hc) rfl ?_) | fail)
  all_goals first
    | exact congrArg vbool (pB_f (show ¬ suitP e r s from fun k => by have := k.1; omega)).symm
    | exact congrArg vbool (pB_f (show ¬ suitP e r s from fun k => by have := k.2.1.2; omega)).symm
    | exact congrArg vbool (pB_f (show ¬ suitP e r s from fun k => absurd k.2.2 (by assumption))).symm
    | skip
  refine loop_in (fun i : Nat => [(7, vint .i64 i)]) (fun _ => [some ⟨69, 4, false, .box (pvs e.row)⟩, some ⟨72, 5, false, .box (pvs r.row)⟩, some ⟨23, 4, false, .box (pvs s.row)⟩]) (fun i => i ≤ e.feats.length ∧ ∀ j, j < i → ∀ q, e.feats[j]? = some q → q ∈ r.feats) (fun i => e.feats.length - i) 0 ⟨by omega, fun j hj => by omega⟩ ⟨?_, ?_⟩
  · exact back [0, 1, 2] rfl rfl ⟨rfl, rfl, rfl, trivial⟩ (by repeat' (first | exact trivial | exact rfl | refine And.intro ?_ ?_))
  intro i ⟨hi, hall⟩
  rcases Nat.lt_or_ge i e.feats.length with hlt | hge
  · obtain ⟨q, hq⟩ := getE hlt
    repeat' (first | refine o1 ?_ | refine o2 ?_ | refine k1 ?_ | refine k2 ?_ | refine k3 ?_ | refine k4 ?_ | refine k6 ?_ | refine k7 ?_ | refine And.intro ?_ ?_ | refine o3 ?_ | refine o4 ?_ | (intro h; first | exact Bool.noConfusion h | exact nz _ h | exact nl h | (simp at h; done) | (simp at h; first | (exfalso; omega) | skip) | skip) | (change retOk _ _ _ _; refine ret_pure rfl trivial ?_) | exact (by kernel_rfl : drawOk _ _ = true) | refine eqv_len_map ?_ | refine eqv_wrap (by omega) (by omega) ?_ | refine ⟨_, _, (by first | rfl | assumption), at_map (by assumption), ?_⟩ | (change vcFunD _ _ _ _ _; refine callD_eq rfl (by repeat' (first | trivial | refine And.intro ?_ ?_ | (show 0 + _ ≤ List.length _; simp))) ALeL.refl (c_has r.feats q hr) rfl ?_) | fail)
    all_goals first
      | exact congrArg vbool (pB_f (show ¬ suitP e r s from fun k => absurd (k.2.1.1 q (List.mem_of_getElem? hq)) (by assumption))).symm
      | exact ⟨i + 1, ⟨hlt, all_lt_succ hall fun q' h' => by rw [hq] at h'; cases h'; assumption⟩, by omega, back [0, 1, 2] rfl rfl ⟨rfl, rfl, rfl, trivial⟩ (by repeat' (first | exact trivial | exact rfl | refine And.intro ?_ ?_))⟩

  · repeat' (first | refine o1 ?_ | refine o2 ?_ | refine k1 ?_ | refine k2 ?_ | refine k3 ?_ | refine k7 ?_ | refine k8 ?_ | refine And.intro ?_ ?_ | (intro h; first | exact Bool.noConfusion h | exact nz _ h | exact nl h | (simp at h; done) | (simp at h; first | (exfalso; omega) | skip) | skip) | (change retOk _ _ _ _; refine ret_pure rfl trivial ?_) | refine eqv_len_map ?_ | fail)
    have h2 : ∀ f ∈ e.feats, f ∈ r.feats := fun f hf => by
      obtain ⟨j, hj⟩ := List.getElem?_of_mem hf
      exact hall j (by have := (List.getElem?_eq_some_iff.1 hj).1; omega) f hj
    exact congrArg vbool (pB_t (show suitP e r s from ⟨by omega, ⟨h2, by omega⟩, by assumption⟩)).symm
end Go.Proofs.YtpnghlibmpainaaGreat.Cw

/-
  Contracts: what two exams cost beside each other; the reference's seats.
-/
namespace Go.Proofs.YtpnghlibmpainaaGreat.Cw
open Go.Cw Go.Proofs
set_option linter.unusedVariables false
set_option maxRecDepth 100000
set_option maxHeartbeats 8000000

/-- What the checks say of lengths. -/
structure LensX (x : Exams) : Prop where
  rooms : x.rooms.length ≤ 16
  room : ∀ r ∈ x.rooms, r.feats.length ≤ 8 ∧ r.closed.length ≤ 24 ∧ 0 ≤ r.seats ∧ r.seats ≤ 1048576
  exam : ∀ e ∈ x.exams, e.feats.length ≤ 8 ∧ 1 ≤ e.studs.length ∧ e.studs.length ≤ 64
  sits : x.sits.length ≤ 24
  cost : ∀ s ∈ x.sits, 0 ≤ s.cost ∧ s.cost ≤ 1000
theorem c_rentry (x : Exams) (u i k : Nat) (a b : Seat) (s t : Sitting) (e f : Exam) (h0 : examsE x = 0) (h1 : x.sits[a.sit]? = some s) (h2 : x.sits[b.sit]? = some t) (h3 : x.exams[i]? = some e) (h4 : x.exams[k]? = some f) :
    PCall Tryz.prog 50 [ag x.cells, vint .i64 u, vint .i64 i, vint .i64 k, ag a.row, ag b.row] (fun r => r = vint .i64 (entC x u a b s t e f)) := by
  have hf := fine_of h0
  have he := (hf.el _ _ h3).1
  have hff := (hf.el _ _ h4).1
  have c1 := c_rcommon e f he hff
  have c2 := c_rrelation x a.sit b.sit s t hf h1 h2
  obtain ⟨g1, g2, g3, g4⟩ := gaps_ok h0
  have hn := comN_len (a := e.studs) (b := f.studs)
  unfold entC
  generalize comN e.studs f.studs = n at *
  generalize relE x a.sit b.sit s t = R at *
  have p1 : 0 ≤ (n : Int) * x.gaps.row ∧ (n : Int) * x.gaps.row ≤ 64 * 1000 := ⟨Int.mul_nonneg (by omega) g1.1, Int.mul_le_mul (by omega) g1.2 g1.1 (by decide)⟩
  have p2 : 0 ≤ (n : Int) * x.gaps.day ∧ (n : Int) * x.gaps.day ≤ 64 * 1000 := ⟨Int.mul_nonneg (by omega) g2.1, Int.mul_le_mul (by omega) g2.2 g2.1 (by decide)⟩
  have p3 : 0 ≤ (n : Int) * x.gaps.near ∧ (n : Int) * x.gaps.near ≤ 64 * 1000 := ⟨Int.mul_nonneg (by omega) g3.1, Int.mul_le_mul (by omega) g3.2 g3.1 (by decide)⟩
  refine acall_of tok mixed 109 rfl (fn := Tryz.f50) (c := Tryz.f50.body.getD .skip) (by kernel_rfl) (by kernel_rfl) (by kernel_rfl) rfl 0 rfl ?_
  repeat' (first | (refine idx_sl (k := i) (at_map h3) rfl ?_) | (refine idx_sl (k := k) (at_map h4) rfl ?_) | refine o1 ?_ | refine o2 ?_ | refine k1 ?_ | refine k2 ?_ | refine k3 ?_ | refine k4 ?_ | refine k6 ?_ | refine k7 ?_ | refine And.intro ?_ ?_ | refine o3 ?_ | refine o4 ?_ | (intro h; first | exact Bool.noConfusion h | exact nz _ h | exact nl h | (simp at h; done) | (simp at h; first | (exfalso; omega) | skip) | skip) | (change retOk _ _ _ _; refine ret_pure rfl trivial ?_) | exact (by kernel_rfl : drawOk _ _ = true) | refine eqv_wrap (by omega) (by omega) ?_ | (change vcFunD _ _ _ _ _; refine callD_eq rfl (by repeat' (first | trivial | refine And.intro ?_ ?_ | (show 0 + _ ≤ List.length _; simp))) ALeL.refl (c1) rfl ?_) | (change vcFun _ _ _ _ _; refine call_eq rfl (by repeat' (first | trivial | refine And.intro ?_ ?_ | (show 0 + _ ≤ List.length _; simp))) ALeL.refl (c2) rfl ?_) | fail)
  all_goals clear c1 c2
  all_goals
    refine congrArg (vint .i64) ?_
    (repeat' split) <;> first | rfl | (exfalso; omega) | omega | skip
theorem c_spots0 (x : Exams) (k : Nat) (e : Exam) (hl : LensX x) (he : x.exams[k]? = some e) : PCall Tryz.prog 49 [ag x.cells, vint .i64 k] (fun r => Leq r (.pv (.sl 2 ((seatsV x e).map Seat.row)))) := by
  obtain ⟨hr, hrm, hex, hsn, -⟩ := hl
  have hef := (hex e (List.mem_of_getElem? he)).1
  have hI : ∀ i, (seatsI x e i).length ≤ 16 := fun i => by
    unfold seatsI
    split
    · exact Nat.le_trans upto_len hr
    · exact Nat.zero_le _
  have hG := gr_len hI
  unfold seatsV
  refine acall_of tok mixed 45 rfl (fn := Tryz.f49) (c := Tryz.f49.body.getD .skip) (by kernel_rfl) (by kernel_rfl) (by kernel_rfl) rfl 0 rfl ?_
  repeat' (first | refine o1 ?_ | refine o2 ?_ | refine k1 ?_ | refine k2 ?_ | refine k4 ?_ | fail)
  refine loop_for (fun i : Nat => [(1, vint .i64 k), (2, .ptr 0 8 0 0), (5, slP 1 2 ((gr (seatsI x e) i).map Seat.row)), (6, vint .i64 i)]) (fun i => [some ⟨33, 8, false, .box (pvs x.cells)⟩, obP 112 2 ((gr (seatsI x e) i).map Seat.row)]) (fun i => i ≤ x.sits.length) (fun i => x.sits.length - i) 0 (Nat.zero_le _) ?_ ?_
  · exact back [0, 1] rfl rfl (by repeat' (first | exact trivial | exact rfl | refine And.intro ?_ ?_)) (by repeat' (first | exact trivial | exact rfl | refine And.intro ?_ ?_))
  intro i hi
  have hGi := hG i
  rcases Nat.lt_or_ge i x.sits.length with hlt | hge
  · obtain ⟨s, hs⟩ := getE hlt
    have hsi : seatsI x e i = upto x.rooms (seatF e i s) x.rooms.length := by unfold seatsI; rw [hs]
    have hnx := gr_succ (F := seatsI x e) (i := i)
    rw [hsi] at hnx
    generalize gr (seatsI x e) i = G at *
    repeat' (first | (refine fh_ob ?_) | refine o1 ?_ | refine o2 ?_ | refine k1 ?_ | refine k2 ?_ | refine k3 ?_ | refine k4 ?_ | refine k6 ?_ | refine And.intro ?_ ?_ | (intro h; first | exact Bool.noConfusion h | exact nz _ h | exact nl h | (simp at h; done) | (simp at h; first | (exfalso; omega) | skip) | skip) | refine eqv_len_map ?_ | fail)
    refine loop_for (fun r : Nat => [(1, vint .i64 k), (2, .ptr 0 8 0 0), (5, slP 1 2 ((G ++ upto x.rooms (seatF e i s) r).map Seat.row)), (6, vint .i64 i), (7, vint .i64 r)]) (fun r => [some ⟨33, 8, false, .box (pvs x.cells)⟩, obP 112 2 ((G ++ upto x.rooms (seatF e i s) r).map Seat.row)]) (fun r => r ≤ x.rooms.length) (fun r => x.rooms.length - r) 0 (Nat.zero_le _) ?_ ?_
    · rw [upto_zero, List.append_nil]
      exact back [0, 1] rfl rfl (by repeat' (first | exact trivial | exact rfl | refine kept_ob rfl ?_ | refine And.intro ?_ ?_)) (by repeat' (first | exact trivial | exact rfl | exact ren_get rfl | refine And.intro ?_ ?_))
    intro r hr2
    have hul := upto_len (l := x.rooms) (f := seatF e i s) (n := r)
    rcases Nat.lt_or_ge r x.rooms.length with hrl | hrg
    · obtain ⟨q, hq⟩ := getE hrl
      have hqm := hrm q (List.mem_of_getElem? hq)
      have hc := c_suits e q s (by omega) (by omega) (by omega)
      have hS := fun (h : suitP e q s) => upto_some (f := seatF e i s) hq (show seatF e i s r q = some ⟨i, r⟩ from if_pos (pB_t h))
      have hN := fun (h : ¬ suitP e q s) => upto_none (f := seatF e i s) hq (show seatF e i s r q = none from if_neg (by rw [pB_f h]; simp))
      have hlen : (G ++ upto x.rooms (seatF e i s) r).length ≤ 1000 := by rw [List.length_append]; omega
      have hS2 := fun (h : suitP e q s) => show G ++ upto x.rooms (seatF e i s) (r + 1) = (G ++ upto x.rooms (seatF e i s) r) ++ [⟨i, r⟩] by rw [hS h, List.append_assoc]
      have hN2 := fun (h : ¬ suitP e q s) => show G ++ upto x.rooms (seatF e i s) (r + 1) = G ++ upto x.rooms (seatF e i s) r by rw [hN h]
      generalize G ++ upto x.rooms (seatF e i s) r = U at *
      repeat' (first | (refine fv_sl ?_) | (refine fh_ob ?_) | ((refine o_app rfl rfl rfl rfl rfl rfl rfl rfl rfl rfl rfl (by rw [List.length_map]; omega) (by rw [List.length_map]; omega) ?_)) | refine o1 ?_ | refine o2 ?_ | refine k1 ?_ | refine k2 ?_ | refine k3 ?_ | refine k4 ?_ | refine k6 ?_ | refine And.intro ?_ ?_ | refine o3 ?_ | refine o4 ?_ | (intro h; first | exact Bool.noConfusion h | exact nz _ h | exact nl h | (simp at h; done) | (simp at h; first | (exfalso; omega) | skip) | skip) | exact (by kernel_rfl : drawOk _ _ = true) | refine eqv_len_map ?_ | refine eqv_wrap (by omega) (by omega) ?_ | refine ⟨_, _, (by first | rfl | assumption), at_map (by assumption), ?_⟩ | (change vcFunD _ _ _ _ _; refine callD_eq rfl (by repeat' (first | trivial | refine And.intro ?_ ?_ | (show 0 + _ ≤ List.length _; simp))) ALeL.refl (hc) rfl ?_) | fail)
      · refine ⟨r + 1, by omega, by omega, ?_⟩
        rw [hS2 (by assumption), map_snoc, sl_app, ob_app]
        exact back [0, 3] rfl rfl (by repeat' (first | exact trivial | exact rfl | refine And.intro ?_ ?_)) (by repeat' (first | exact trivial | exact rfl | refine And.intro ?_ ?_))
      · refine ⟨r + 1, by omega, by omega, ?_⟩
        rw [hN2 (by assumption)]
        exact back [0, 1] rfl rfl (by repeat' (first | exact trivial | exact rfl | refine kept_ob rfl ?_ | refine And.intro ?_ ?_)) (by repeat' (first | exact trivial | exact rfl | exact ren_get rfl | refine And.intro ?_ ?_))
    · obtain rfl : r = x.rooms.length := by omega
      repeat' (first | (refine fh_ob ?_) | refine o1 ?_ | refine o2 ?_ | refine k1 ?_ | refine k2 ?_ | refine k3 ?_ | refine k8 ?_ | refine And.intro ?_ ?_ | (intro h; first | exact Bool.noConfusion h | exact nz _ h | exact nl h | (simp at h; done) | (simp at h; first | (exfalso; omega) | skip) | skip) | refine eqv_len_map ?_ | refine eqv_wrap (by omega) (by omega) ?_ | fail)
      refine ⟨i + 1, by omega, by omega, ?_⟩
      rw [hnx]
      exact back [0, 1] rfl rfl (by repeat' (first | exact trivial | exact rfl | refine kept_ob rfl ?_ | refine And.intro ?_ ?_)) (by repeat' (first | exact trivial | exact rfl | exact ren_get rfl | refine And.intro ?_ ?_))
  · obtain rfl : i = x.sits.length := by omega
    repeat' (first | (refine fv_sl ?_) | (refine fh_ob ?_) | refine o1 ?_ | refine o2 ?_ | refine k1 ?_ | refine k2 ?_ | refine k3 ?_ | refine k7 ?_ | refine k8 ?_ | refine And.intro ?_ ?_ | (intro h; first | exact Bool.noConfusion h | exact nz _ h | exact nl h | (simp at h; done) | (simp at h; first | (exfalso; omega) | skip) | skip) | refine eqv_len_map ?_ | fail)
    exact ret_sl (id := 1) (ty := 112) rfl ⟨ALe.refl⟩ leq_down
theorem c_spots (x : Exams) (k : Nat) (e : Exam) (hl : LensX x) (he : x.exams[k]? = some e) : PCall Tryz.prog 49 [ag x.cells, vint .i64 k] (fun r => r = .pv (.sl 2 ((seatsV x e).map Seat.row))) :=
  (c_spots0 x k e hl he).weak fun r h => ⟨_, h.le, rfl⟩
end Go.Proofs.YtpnghlibmpainaaGreat.Cw

/-
  Contracts: what two exams cost beside each other, by the builder.
-/
namespace Go.Proofs.YtpnghlibmpainaaGreat.Cw
open Go.Cw Go.Proofs
set_option linter.unusedVariables false
set_option maxRecDepth 100000
set_option maxHeartbeats 8000000

/-- The builder: examinations, seats, a model. -/
def bldC (x : Exams) (q8 q9 q10 q11 : PV) : List PV := x.cells ++ [q8, q9, q10, q11, ei 7]
end Go.Proofs.YtpnghlibmpainaaGreat.Cw

/-
  A call whose contract names places where no object is.
-/
namespace Go.Cw
set_option linter.unusedVariables false

end Go.Cw

/-
  Contracts: the options of an exam, by the builder.
-/
namespace Go.Proofs.YtpnghlibmpainaaGreat.Cw
open Go Go.Cw Go.Proofs
set_option linter.unusedVariables false
set_option maxRecDepth 100000
set_option maxHeartbeats 20000000

noncomputable def rowsO (x : Exams) (L : List Seat) : List (List PV) := L.map fun q => optB (optS x q)
def rowsS (L : List Seat) : List (List PV) := L.map Seat.row
def bxO (x : Exams) (S C P N : AV) : Option AObj := some ⟨102, 13, false, .box (pvs x.cells ++ [S, C, P, N, vint .i64 7])⟩
theorem rowsO_snoc {x : Exams} {L : List Seat} {q : Seat} : rowsO x (L ++ [q]) = rowsO x L ++ [optB (optS x q)] := by unfold rowsO; simp
theorem rowsO_len {x : Exams} {L : List Seat} : (rowsO x L).length = L.length := List.length_map _
theorem optB_at {x : Exams} {i r : Nat} {s : Sitting} (hs : x.sits[i]? = some s) : optB (optS x ⟨i, r⟩) = [ei (timeOf s).weeks, ei (timeOf s).day, ei (timeOf s).start, ei (timeOf s).len, ei r, if 0 < s.cost then .sl 2 [[ei 5, ei s.cost]] else .val (.slice none 0 0)] := by
  unfold optS
  dsimp only
  rw [hs]
  unfold optB
  dsimp only
  by_cases h : 0 < s.cost
  · rw [if_pos h, if_pos h]; rfl
  · rw [if_neg h, if_neg h]
end Go.Proofs.YtpnghlibmpainaaGreat.Cw

/-
  Contracts: the pair of two exams, by the builder.
-/
namespace Go.Proofs.YtpnghlibmpainaaGreat.Cw
open Go Go.Cw Go.Proofs
set_option linter.unusedVariables false
set_option maxRecDepth 100000
set_option maxHeartbeats 20000000

/-- The builder with pure seats, classes, counts; pairs grow. -/
def bxP (x : Exams) (q8 q9 : PV) (P : AV) : AObj := ⟨102, 13, false, .box (pvs x.cells ++ [.pv q8, .pv q9, P, nilA, vint .i64 7])⟩
theorem ren_bx3 {d : Nat} {rn : List Nat} {id z : Nat} {rows : List (List PV)} {a b c : PV} : renL d rn [.pv a, .pv b, .pv c, slP id z rows] = [.pv a, .pv b, .pv c, slP (rn.getD id d) z rows] := by simp [renL, ren_sl, renC]
end Go.Proofs.YtpnghlibmpainaaGreat.Cw

/-
  Contracts: the count of a sitting and a room, by the builder.
-/
namespace Go.Proofs.YtpnghlibmpainaaGreat.Cw
open Go Go.Cw Go.Proofs
set_option linter.unusedVariables false
set_option maxRecDepth 100000
set_option maxHeartbeats 20000000

def idxQ (s r : Nat) (A : List Seat) : Int := match A.findIdx? (seatIs s r) with
  | some k => k
  | none => -1
theorem seatIs_t {s r : Nat} {q : Seat} (h : q.sit = s ∧ q.room = r) : seatIs s r q = true := by unfold seatIs; simp [h]
theorem seatIs_f {s r : Nat} {q : Seat} (h : ¬ (q.sit = s ∧ q.room = r)) : seatIs s r q = false := by unfold seatIs; simp; omega
theorem idxQ_at {s r : Nat} {A : List Seat} {k : Nat} {q : Seat} (h0 : ∀ j, j < k → ∀ y, A[j]? = some y → seatIs s r y = false) (hq : A[k]? = some q) (h : seatIs s r q = true) : A.findIdx? (seatIs s r) = some k := by
  obtain ⟨hk, rfl⟩ := List.getElem?_eq_some_iff.1 hq
  refine List.findIdx?_eq_some_iff_getElem.2 ⟨hk, h, fun j hj => ?_⟩
  have := h0 j hj _ (List.getElem?_eq_getElem (by omega))
  simp [this]
theorem ren_bxL {d : Nat} {rn : List Nat} {id z : Nat} {rows : List (List PV)} {a b c : PV} : renL d rn [.pv a, slP id z rows, .pv b, .pv c] = [.pv a, slP (rn.getD id d) z rows, .pv b, .pv c] := by simp [renL, ren_sl, renC]
end Go.Proofs.YtpnghlibmpainaaGreat.Cw

/-
  Calls of the builder's methods: objects that are there, or not.
-/
namespace Go.Proofs.YtpnghlibmpainaaGreat.Cw
open Go Go.Cw Go.Proofs
set_option linter.unusedVariables false
set_option maxRecDepth 100000
set_option maxHeartbeats 2000000

def bxL (ty : TypeId) (l : List AV) : Option AObj := some ⟨ty, 13, false, .box l⟩
section
variable {P : Program} {f : FuncId} {K : AV → Heap → Prop} {ps qs es_ : List PV} {ty tS tC : TypeId} {o0 o1 o5 : Option AObj}
end
end Go.Proofs.YtpnghlibmpainaaGreat.Cw

/-
  Contracts: the model of examinations, by the builder.
-/
namespace Go.Proofs.YtpnghlibmpainaaGreat.Cw
open Go Go.Cw Go.Proofs
set_option linter.unusedVariables false
set_option maxRecDepth 100000
set_option maxHeartbeats 20000000

def zeroM : List PV := [.val (.slice none 0 0), .val (.slice none 0 0), .val (.slice none 0 0), ei 0]
theorem le_zeroM : ALeL (pvs zeroM) (pvs (Model.cells ⟨[], [], [], 0⟩)) := ⟨ALe.pv PLe.nil, ALe.pv PLe.nil, ALe.pv PLe.nil, ALe.refl, trivial⟩
noncomputable def rowsA (x : Exams) (i : Nat) : List (List PV) := (x.exams.take i).map fun e => seatsRow (seatsV x e)
noncomputable def rowsC (x : Exams) (i : Nat) : List (List PV) := (x.exams.take i).map fun e => [.sl 6 (rowsO x (seatsV x e))]
theorem rowsA_succ {x : Exams} {i : Nat} {e : Exam} (h : x.exams[i]? = some e) : rowsA x (i + 1) = rowsA x i ++ [seatsRow (seatsV x e)] := by unfold rowsA; rw [take_snoc h, map_snoc]
theorem rowsC_succ {x : Exams} {i : Nat} {e : Exam} (h : x.exams[i]? = some e) : rowsC x (i + 1) = rowsC x i ++ [[.sl 6 (rowsO x (seatsV x e))]] := by unfold rowsC; rw [take_snoc h, map_snoc]
theorem rowsA_len {x : Exams} {i : Nat} : (rowsA x i).length ≤ i := by unfold rowsA; rw [List.length_map]; exact List.length_take_le ..
theorem rowsC_len {x : Exams} {i : Nat} : (rowsC x i).length ≤ i := by unfold rowsC; rw [List.length_map]; exact List.length_take_le ..
theorem bad_build {x : Exams} {i : Nat} {e : Exam} (h0 : examsE x = 0) (hall : ∀ j, j < i → sizeE x j = 0) (he : x.exams[i]? = some e) (h : ¬ (seatsV x e).length ≤ 24) : buildE x = 2 ∧ buildM x = ⟨[], [], [], 0⟩ := by
  have hi := (List.getElem?_eq_some_iff.1 he).1
  have hs : sizeE x i = 2 := by rw [sizeE_at he, if_pos (by omega)]
  have e2 : buildE x = 2 := by
    unfold buildE
    rw [if_neg (by simp [h0]), firstE_at hall (by rw [hs]; decide) hi, hs]
  exact ⟨e2, by unfold buildM; rw [e2]; exact if_neg (by decide)⟩
theorem rowsA_all {x : Exams} : rowsA x x.exams.length = (setsX x).map seatsRow := by unfold rowsA setsX; rw [List.take_length, List.map_map]; rfl
theorem le_rowsC {x : Exams} : PLeLL (rowsC x x.exams.length) ((clsX x).map optsRow) := by
  unfold rowsC clsX
  rw [List.take_length, List.map_map]
  refine PLeLL.map fun e _ => ⟨PLe.sl ?_, trivial⟩
  have h := le_optB (l := (seatsV x e).map (optS x))
  rw [List.map_map] at h
  exact h
theorem seats_sit {x : Exams} {e : Exam} {s : Seat} (h : s ∈ seatsV x e) : ∃ t, x.sits[s.sit]? = some t := by
  obtain ⟨i, -, h⟩ := gr_mem.1 h
  unfold seatsI at h
  split at h
  · rename_i t ht
    obtain ⟨k, r, -, -, hf⟩ := upto_mem.1 h
    unfold seatF at hf
    split at hf
    · injection hf with hf
      subst hf
      exact ⟨t, ht⟩
    · cases hf
  · cases h
theorem good_build {x : Exams} (h0 : examsE x = 0) (hall : ∀ j, j < x.exams.length → sizeE x j = 0) : buildE x = 0 ∧ buildM x = ⟨clsX x, prsU (setsX x) (entX x) 7, cntS (setsX x) (wtX x) (mostX x) x.rooms.length x.sits.length, 7⟩ ∧ ∀ e ∈ x.exams, (seatsV x e).length ≤ 24 := by
  have e1 : buildE x = 0 := by
    unfold buildE
    rw [if_neg (by simp [h0])]
    exact firstE_zero hall
  exact ⟨e1, by unfold buildM; exact if_pos e1, (build_z e1).2⟩
end Go.Proofs.YtpnghlibmpainaaGreat.Cw
