/-
  Cw, part X: frames; a list of operations in the text's order.
-/
import Derived.Test.YtlhakdmenohdnaaCwV
namespace Go.Cw
set_option linter.unusedVariables false
section
variable {P : Program} {T : Tab} {n : Nat}

def gput (g : Nat → Option AV) (d : Option Tmp) (v : AV) : Nat → Option AV :=
  match d with
  | some t => fun s => if t = s then some v else g s
  | none => g

theorem get_put (Γ : Slots) (d : Option Tmp) (v : AV) : get (put Γ d v) = gput (get Γ) d v := by
  cases d with
  | none => rfl
  | some t => funext s; exact get_cons Γ t s v

variable {I0 : Nat → Prop} {β0 : Beta} {w0 : World}

theorem dstOk_lt {o : Oper} (h : dstOk n o = true) {d : Tmp} (hd : o.dst = some d) : d < n := by
  simpa [dstOk, hd, Nat.blt_eq] using h

/-- A slot is written. -/
theorem Sim.put {lo cnt lo' cnt' : Nat} {g : Nat → Option AV} {H H' : Heap} {I I' : Nat → Prop} {β β' : Beta} {a : Act} {w w' : World} (hs : Sim I0 β0 w0 n lo cnt g H I β a w) {o : Oper} (hd : dstOk n o = true) {r : AV} {v : Value}
    (hH : HSim I' β' H' w') (hr : ARel I' β' w' r v) (hevo : Evo I β w I' β' w') (hfree : ∀ s, lo' ≤ s → s < lo' + cnt' → β'[s]? = some none) :
    Sim I0 β0 w0 n lo' cnt' (gput g o.dst r) H' I' β' (a.put o.dst v) w' := by
  refine ⟨hH, ?_, ?_, fun s x hx => ?_, hs.evo.trans hevo, hfree⟩
  · cases hd' : o.dst <;> simpa [Act.put] using hs.defers
  · cases hd' : o.dst <;> simpa [Act.put] using hs.size
  · cases hd' : o.dst with
    | none =>
      rw [hd'] at hx
      exact hevo.mono (hs.slot s x hx)
    | some d =>
      have hlt := dstOk_lt hd hd'
      rw [hd'] at hx
      simp only [gput] at hx
      simp only [Act.put]
      by_cases h : d = s
      · subst h
        rw [if_pos rfl] at hx
        injection hx with hx; subst hx
        have : d < a.tmps.size := by rw [hs.size]; exact hlt
        simpa [this] using hr
      · rw [if_neg h] at hx
        have e : (a.tmps.setIfInBounds d v).getD s undef = a.tmps.getD s undef := by
          simp [Array.getElem?_setIfInBounds_ne h]
        rw [e]
        exact hevo.mono (hs.slot s x hx)

theorem Sim.skip {lo cnt lo' cnt' : Nat} {g : Nat → Option AV} {H : Heap} {I : Nat → Prop} {β : Beta} {a : Act} {w : World} (hs : Sim I0 β0 w0 n lo cnt g H I β a w) {o : Oper} (hd : dstOk n o = true)
    (hfree : ∀ s, lo' ≤ s → s < lo' + cnt' → β[s]? = some none) : Sim I0 β0 w0 n lo' cnt' (gput g o.dst (.pv (.val undef))) H I β (a.put o.dst undef) w :=
  hs.put hd hs.h (rel_val _) (Evo.refl _ _ _) hfree

/-- What is known of bools. -/
def KnOk (dc : Known) (g : Nat → Option AV) : Prop := ∀ s b, kn dc s = some b → g s = some (vbool b)

theorem knOf_ok {dc : Known} {g : Nat → Option AV} (hk : KnOk dc g) {x : Operand} {b : Bool} (h : knOf dc x = some b) : evF g x = some (vbool b) := by
  unfold knOf at h
  split at h
  · injection h with h; subst h; rfl
  · exact hk _ _ h
  · cases h

theorem kn_op {dc : Known} {g : Nat → Option AV} (hk : KnOk dc g) {op : Op} {site : Nat} {H : Heap} {K : AV → Upd → List Nat → Prop} (h : vcOp T site (simpOp dc op) (evF g) H K) :
    vcOp T site op (evF g) H fun r u rd => K r u rd ∧ ∀ b, knRes dc op = some b → r = vbool b := by
  have vac : ∀ {op' : Op}, knRes dc op = none → vcOp T site op' (evF g) H K → vcOp T site op' (evF g) H fun r u rd => K r u rd ∧ ∀ b, knRes dc op = some b → r = vbool b := fun hn hv => by
    have e : (fun r u rd => K r u rd ∧ ∀ b, knRes dc op = some b → r = vbool b) = K := by
      funext r u rd; simp [hn]
    rw [e]; exact hv
  cases hn : knRes dc op with
  | none =>
    rw [hn] at vac
    have vac := @vac op rfl
    cases op with
    | pick c a b =>
      apply vac
      simp only [simpOp] at h
      split at h
      · rename_i hc
        have e := knOf_ok hk hc
        simp only [vcOp, e, vcPick, vbool] at h ⊢
        exact ⟨fun _ => h, fun h => nomatch h⟩
      · rename_i hc
        have e := knOf_ok hk hc
        simp only [vcOp, e, vcPick, vbool] at h ⊢
        exact ⟨fun h => (nomatch h), fun _ => h⟩
      · exact h
    | _ => exact vac h
  | some b0 =>
    have mv : ∀ {x : Operand}, knOf dc x = some b0 → vcOp T site (.move x) (evF g) H K → K (vbool b0) [] [] := fun hx hv => by
      simp only [vcOp, knOf_ok hk hx] at hv; exact hv
    cases op <;> simp only [knRes] at hn <;> try (cases hn; done)
    · rename_i x
      have := mv hn h
      simp only [vcOp, knOf_ok hk hn]
      exact ⟨this, fun b hb => by injection hb with hb; subst hb; rfl⟩
    · rename_i x
      have := mv hn (by simpa [vcOp, simpOp] using h)
      simp only [vcOp, knOf_ok hk hn]
      exact ⟨this, fun b hb => by injection hb with hb; subst hb; rfl⟩
    · rename_i c x y
      simp only [simpOp] at h
      split at hn
      · rename_i hc
        rw [hc] at h
        have := mv hn h
        simp only [vcOp, knOf_ok hk hc, vcPick, vbool]
        refine ⟨fun _ => ?_, fun h => nomatch h⟩
        simp only [knOf_ok hk hn]
        exact ⟨this, fun b hb => by injection hb with hb; subst hb; rfl⟩
      · rename_i hc
        rw [hc] at h
        have := mv hn h
        simp only [vcOp, knOf_ok hk hc, vcPick, vbool]
        refine ⟨fun h => (nomatch h), fun _ => ?_⟩
        simp only [knOf_ok hk hn]
        exact ⟨this, fun b hb => by injection hb with hb; subst hb; rfl⟩
      · cases hn

theorem knOut_spec : ∀ {dc : Known} {s : Nat} {K : Known → Prop}, knOut dc s K → ∃ dc', K dc' ∧ ∀ t b, kn dc' t = some b → kn dc t = some b ∧ t ≠ s
  | [], s, K, h => ⟨[], h, fun t b ht => by simp [kn] at ht⟩
  | (k, b0) :: l, s, K, h => by
    simp only [knOut] at h
    split at h
    · rename_i hk
      have hk := Nat.eq_of_beq_eq_true hk; subst hk
      obtain ⟨dc', h1, h2⟩ := knOut_spec h
      refine ⟨dc', h1, fun t b ht => ?_⟩
      obtain ⟨h3, h4⟩ := h2 t b ht
      refine ⟨?_, h4⟩
      simp only [kn]
      have : Nat.beq k t = false := by
        cases hb : Nat.beq k t
        · rfl
        · exact absurd (Nat.eq_of_beq_eq_true hb).symm h4
      rw [this]; exact h3
    · rename_i hk
      obtain ⟨dc', h1, h2⟩ := knOut_spec h
      refine ⟨_, h1, fun t b ht => ?_⟩
      simp only [kn] at ht ⊢
      cases hb : Nat.beq k t
      · rw [hb] at ht
        exact ⟨by simpa using (h2 t b (by simpa using ht)).1, (h2 t b (by simpa using ht)).2⟩
      · rw [hb] at ht
        have := Nat.eq_of_beq_eq_true hb; subst this
        refine ⟨by simpa using ht, fun e => ?_⟩
        subst e
        simp at hk

theorem knPut_spec {dc : Known} {o : Oper} {K : Known → Prop} {g : Nat → Option AV} (hk : KnOk dc g) (h : knPut dc o K) : ∃ dc', K dc' ∧ ∀ r, (∀ b, knRes dc o.op = some b → r = vbool b) → KnOk dc' (gput g o.dst r) := by
  unfold knPut at h
  split at h
  · rename_i d hd
    have old : ∀ {dc' : Known}, (∀ t b, kn dc' t = some b → kn dc t = some b ∧ t ≠ d) → ∀ r s b, kn dc' s = some b → gput g (some d) r s = some (vbool b) := fun h2 r s b hs => by
      obtain ⟨h3, h4⟩ := h2 s b hs
      have hne : d ≠ s := fun e => h4 e.symm
      simp only [gput, if_neg hne]
      exact hk s b h3
    have new : ∀ {dc' : Known} {b0 : Bool}, (∀ t b, kn dc' t = some b → kn dc t = some b ∧ t ≠ d) → knRes dc o.op = some b0 → ∀ r, (∀ b, knRes dc o.op = some b → r = vbool b) → KnOk ((d, b0) :: dc') (gput g o.dst r) := fun h2 hb r hr s b hs => by
      rw [hd]
      simp only [kn] at hs
      cases hbeq : Nat.beq d s
      · rw [hbeq] at hs; exact old h2 r s b (by simpa using hs)
      · rw [hbeq] at hs
        have := Nat.eq_of_beq_eq_true hbeq; subst this
        simp only [cond_true, Option.some.injEq] at hs; subst hs
        simp only [gput, if_true]
        rw [hr _ hb]
    split at h
    · rename_i hb
      obtain ⟨dc', h1, h2⟩ := knOut_spec h
      exact ⟨_, h1, new h2 hb⟩
    · rename_i hb
      obtain ⟨dc', h1, h2⟩ := knOut_spec h
      exact ⟨_, h1, new h2 hb⟩
    · obtain ⟨dc', h1, h2⟩ := knOut_spec h
      exact ⟨_, h1, fun r _ => by rw [hd]; exact old h2 r⟩
  · rename_i hd
    exact ⟨dc, h, fun r _ => by rw [hd]; exact hk⟩

theorem knSkip_spec {dc : Known} {o : Oper} {K : Known → Prop} {g : Nat → Option AV} (hk : KnOk dc g) (h : knSkip dc o K) : ∃ dc', K dc' ∧ ∀ r, KnOk dc' (gput g o.dst r) := by
  unfold knSkip at h
  split at h
  · rename_i d hd
    obtain ⟨dc', h1, h2⟩ := knOut_spec h
    refine ⟨_, h1, fun r s b hs => ?_⟩
    obtain ⟨h3, h4⟩ := h2 s b hs
    rw [hd]
    have hne : d ≠ s := fun e => h4 e.symm
    simp only [gput, if_neg hne]
    exact hk s b h3
  · rename_i hd
    exact ⟨dc, h, fun r => by rw [hd]; exact hk⟩

/-- A guard is decided. -/
theorem vcGuard_sound {ops : Array Oper} {g : Nat → Option AV} {Γ : Slots} (hg : get Γ = g) {dc : Known} (hk : KnOk dc g) {a : Act} {I : Nat → Prop} {β : Beta} {w : World} (hs : ∀ s x, g s = some x → ARel I β w x (a.tmps.getD s undef))
    {o : Oper} {run skip : Known → Prop} (h : vcGuard ops.toList Γ dc o.guard run skip) :
    (Region.wanted o (yielded ops a.tmps) = true ∧ ∃ dc', KnOk dc' g ∧ run dc') ∨ (Region.wanted o (yielded ops a.tmps) = false ∧ ∃ dc', KnOk dc' g ∧ skip dc') := by
  unfold vcGuard at h
  split at h
  · rename_i hgd
    exact .inl ⟨by simp [Region.wanted, hgd], dc, hk, h⟩
  · rename_i j want hgd
    split at h
    · rename_i o' ho'
      split at h
      · rename_i d hd
        have ho2 : ops[j]? = some o' := by simpa using ho'
        have yes : ∀ b : Bool, g d = some (vbool b) → yielded ops a.tmps j = some b := fun b hb => by
          have hv := val_inv (hs d _ hb)
          have hlt : d < a.tmps.size := by
            rcases Nat.lt_or_ge d a.tmps.size with h | h
            · exact h
            · simp [Array.getD, Nat.not_lt.2 h, undef] at hv
          have h2 : a.tmps[d]? = some (.bool b) := by
            simp [hlt] at hv
            simp [hlt, hv]
          simp [yielded, ho2, hd, h2]
        have cons : ∀ b : Bool, g d = some (vbool b) → KnOk ((d, b) :: dc) g := fun b hb s b' hs' => by
          simp only [kn] at hs'
          cases hbeq : Nat.beq d s
          · rw [hbeq] at hs'; exact hk s b' (by simpa using hs')
          · rw [hbeq] at hs'
            have := Nat.eq_of_beq_eq_true hbeq; subst this
            simp only [cond_true, Option.some.injEq] at hs'; subst hs'
            exact hb
        have wn : ∀ b : Bool, g d = some (vbool b) → Region.wanted o (yielded ops a.tmps) = (b == want) := fun b hb => by
          simp [Region.wanted, hgd, yes b hb]
        split at h
        · rename_i b hkn
          have hb := hk _ _ hkn
          split at h
          · exact .inl ⟨wn _ hb, dc, hk, h⟩
          · exact .inl ⟨wn _ hb, dc, hk, h⟩
          · rename_i hne1 hne2
            refine .inr ⟨?_, dc, hk, h⟩
            rw [wn _ hb]
            cases b <;> cases want <;> first | rfl | exact absurd rfl (hne1 · rfl) | exact absurd rfl (hne2 · rfl)
        · split at h
          · rename_i b hb
            rw [hg] at hb
            have hb : g d = some (vbool b) := hb
            split at h
            · cases b
              · exact .inr ⟨wn _ hb, _, cons _ hb, h.2 rfl⟩
              · exact .inl ⟨wn _ hb, _, cons _ hb, h.1 rfl⟩
            · cases b
              · exact .inl ⟨wn _ hb, _, cons _ hb, h.1 rfl⟩
              · exact .inr ⟨wn _ hb, _, cons _ hb, h.2 rfl⟩
          · rename_i vs hb
            rw [hg] at hb
            have hv := val_inv (hs d _ hb)
            refine .inr ⟨?_, dc, hk, h⟩
            have : yielded ops a.tmps j = none := by
              have h2 : a.tmps[d]? = some (.tuple vs) ∨ a.tmps[d]? = none := by
                rcases Nat.lt_or_ge d a.tmps.size with h | h
                · left; simp [h] at hv; simp [h, hv]
                · right; simp [h]
              rcases h2 with h2 | h2 <;> simp [yielded, ho2, hd, h2]
            simp [Region.wanted, hgd, this]
          · exact h.elim
      · exact h.elim
    · exact h.elim

theorem func_inv {I : Nat → Prop} {β : Beta} {w : World} {fv : AV} {v : Value} {f : FuncId} {caps : List AV} (hf : fv = .fn f caps ∨ ∃ ps, fv = .pv (.fn f ps) ∧ caps = pvs ps) (h : ARel I β w fv v) :
    ∃ cv, v = .func (.func f) #[] cv ∧ cv.size = caps.length ∧ ∀ (j : Nat) c, caps[j]? = some c → ARel I β w c (cv.getD j undef) := by
  rcases hf with rfl | ⟨ps, rfl, rfl⟩
  · cases h with
    | fn hl hc => exact ⟨_, rfl, hl, hc⟩
  · cases h with
    | pv h => cases h with
      | fn hl hc =>
        refine ⟨_, rfl, by rw [hl, pvs_length], fun j c hj => ?_⟩
        obtain ⟨p, hp, rfl⟩ := pvs_get.1 hj
        exact .pv (hc j p hp)

/-- One operation. -/
theorem vcStep_sound (hT : TabOk P T) {lo cnt : Nat} {g : Nat → Option AV} {Γ : Slots} (hg : get Γ = g) {H : Heap} {I : Nat → Prop} {β : Beta} {a : Act} {w : World} (hs : Sim I0 β0 w0 n lo cnt g H I β a w) {dc : Known} (hk : KnOk dc g) {o : Oper}
    (hd : dstOk n o = true) (hal : isAlloc o.op = true → 0 < cnt) {K : Slots → Heap → Prop} (h : vcStep P T lo o.dst (simpOp dc o.op) Γ H K) {next : Act → World → Prop} {Q : Exit → Act → World → Prop}
    (hnext : ∀ r Γ' H' a' w', (∀ b, knRes dc o.op = some b → r = vbool b) → get Γ' = gput g o.dst r → K Γ' H' → SimE I0 β0 w0 n (bif isAlloc o.op then lo + 1 else lo) (bif isAlloc o.op then cnt - 1 else cnt) (get Γ') H' a' w' → next a' w') :
    o.wp P a w next Q := by
  have hρ : ∀ x v, evF g x = some v → ARel I β w v (a.eval x) := fun x v hx => evF_sound hs.slot hx
  have hcl : ∀ {c : Call}, o.op = .call c → knRes dc o.op = none := fun e => by rw [e]; rfl
  unfold vcStep at h
  split at h
  · rename_i f args ats hop
    have hop' : o.op = .call { callee := .value f, args := args, argTypes := ats } := by
      have hop := hop
      cases ho : o.op <;> rw [ho] at hop <;> simp only [simpOp] at hop <;> try (cases hop; done)
      · split at hop <;> cases hop
      · exact hop
    rw [ev_eq, hg] at h
    split at h
    · rename_i fv vs hfv hvs
      have hm : vs.length = args.toList.length ∧ ∀ (j : Nat) y, vs[j]? = some y → ∃ x, args.toList[j]? = some x ∧ evF g x = some y := mapO_spec hvs
      have key : ∀ {fid : FuncId} {caps : List AV}, (fv = .fn fid caps ∨ ∃ ps, fv = .pv (.fn fid ps) ∧ caps = pvs ps) → vcFun P fid (vs ++ caps) H (fun r H' => putK Γ o.dst r fun Γ' => forceH H' fun H2 => K Γ' H2) → o.wp P a w next Q := by
        intro fid caps hfc hcall
        obtain ⟨cv, hcv, hcl2, hcr⟩ := func_inv hfc (hρ _ _ hfv)
        have hvals : (args.map a.eval ++ cv).size = (vs ++ caps).length := by simp [hm.1, hcl2]
        obtain ⟨⟨fn, hfn, hname, hbody⟩, hout⟩ := vcFun_sound (vals := args.map a.eval ++ cv) hs.h hvals (fun j c hj => by
          rcases Nat.lt_or_ge j vs.length with h | h
          · rw [List.getElem?_append_left h] at hj
            obtain ⟨x, hx, hxe⟩ := hm.2 j c hj
            have hlt : j < args.size := by have := (List.getElem?_eq_some_iff.1 hx).1; simpa using this
            have e : (args.map a.eval ++ cv).getD j undef = a.eval x := by
              have hx2 : args[j] = x := by simpa [hlt] using hx
              have h1 : j < (args.map a.eval ++ cv).size := by simp; omega
              simp only [Array.getD, h1, dif_pos]
              show (args.map a.eval ++ cv)[j] = _
              rw [Array.getElem_append_left (by simpa using hlt)]
              simp [hx2]
            rw [e]; exact hρ _ _ hxe
          · rw [List.getElem?_append_right h] at hj
            have hlt := (List.getElem?_eq_some_iff.1 hj).1
            have hsz : vs.length = args.size := by simpa using hm.1
            have e : (args.map a.eval ++ cv).getD j undef = cv.getD (j - vs.length) undef := by
              have h1 : j < (args.map a.eval ++ cv).size := by simp; omega
              have h2 : j - vs.length < cv.size := by omega
              simp only [Array.getD, h1, h2, dif_pos]
              show (args.map a.eval ++ cv)[j] = cv[j - vs.length]
              rw [Array.getElem_append_right (by simp; omega)]
              simp [hsz]
            rw [e]; exact hcr _ c hj) hcall
        have hrun : (execOp a.eval o).run P w = .ok (.enter fid (args.map a.eval ++ cv)) w := by
          have hcf : (callFunc fid (args.map a.eval ++ cv)).run P w = .ok (.enter fid (args.map a.eval ++ cv)) w := by
            unfold callFunc
            simp only [Sem.run_bind, run_program, Result.andThen_ok, hfn, hname, Bool.false_eq_true, if_false, hbody, Sem.run_pure]
          simp only [execOp, hop', resolve, hcv, Deferred.ofValue, Sem.run_bind, Sem.run_pure, Result.andThen_ok, invoke]
          simpa using hcf
        unfold Oper.wp
        rw [hrun]
        simp only [Oper.upon]
        refine hout.mono fun e w' he => ?_
        obtain ⟨r, H2, I', β', v, rfl, hk2, hH2, hr2, hevo, hfr⟩ := he
        rw [putK_eq, forceH_eq] at hk2
        have hia : isAlloc o.op = false := by rw [hop']; rfl
        refine hnext r _ H2 _ _ (fun b hb => by rw [hcl hop'] at hb; cases hb) (by rw [get_put, hg]) hk2 ⟨I', β', ?_⟩
        rw [get_put, hg, hia]
        exact hs.put hd hH2 hr2 hevo (fun s h1 h2 => hfr s (hs.free s h1 h2))
      unfold vcCall at h
      split at h
      · exact key (.inr ⟨_, rfl, rfl⟩) h
      · exact key (.inl rfl) h
      · exact h.elim
    · exact h.elim
  · have hop : vcOp T lo o.op (evF g) H fun r u rd => (putK Γ o.dst r fun Γ' => appK H u fun H2 => K Γ' H2) ∧ ∀ b, knRes dc o.op = some b → r = vbool b := by
      rw [ev_eq, hg] at h
      exact kn_op hk h
    obtain ⟨r, u, rd, ⟨hk2, hkb⟩, nx, v, w', hrun, hnx, I', β', hH', hr', hevo, hfr⟩ := vcOp_sound hT hs.h hρ (o := o) (site := lo) (fun hal' => hs.free lo (Nat.le_refl _) (by have := hal hal'; omega)) hop
    rw [putK_eq, appK_eq] at hk2
    have hfin : next (a.put o.dst v) w' := by
      refine hnext r _ (app H u) _ _ hkb (by rw [get_put, hg]) hk2 ⟨I', β', ?_⟩
      rw [get_put, hg]
      refine hs.put hd hH' hr' hevo (fun s h1 h2 => ?_)
      cases hia : isAlloc o.op
      · rw [hia] at h1 h2 hfr
        refine hfr s (hs.free s h1 h2) (fun e => ?_)
        have := (List.getElem?_eq_some_iff.1 (hs.free s h1 h2)).1
        simp only [cond_false] at e; omega
      · rw [hia] at h1 h2 hfr
        simp only [cond_true] at h1 h2 hfr
        have := hal hia
        exact hfr s (hs.free s (by omega) (by omega)) (by omega)
    unfold Oper.wp
    rw [hrun]
    rcases hnx with rfl | ⟨rfl, rfl⟩
    · exact hfin
    · exact hfin

end
end Go.Cw
