/-
  Cw, part PB: the operations of a statement that draws, each with what it does.
-/
import Derived.Test.YtlhakdmenohdnaaCwPA
namespace Go.Cw
set_option linter.unusedVariables false
set_option linter.unusedSimpArgs false
section
variable {P : Program} {T : Tab} {n nh : Nat}

structure Tr where
  dst : Option Tmp
  L : List Nat
  r : AV
  u : Upd
  rd : List Nat
  site : Option Nat

abbrev St := (Nat → Option AV) × Heap

def Tr.step (t : Tr) (s : St) : St := (gput s.1 t.dst t.r, app s.2 t.u)

def runS (S : Nat → Bool) : Nat → List Tr → St → St
  | _, [], s => s
  | i, t :: l, s => runS S (i + 1) l (bif S i then t.step s else s)

/-- What follows the operation. -/
def Does (P : Program) (ops : Array Oper) (o : Oper) (t : Tr) (s : St) : Prop :=
  ∀ (g' : Nat → Option AV) (H' : Heap) (I : Nat → Prop) (β : Beta) (a : Act) (w : World) (next : Act → World → Prop) (Q : Exit → Act → World → Prop),
    (∀ x ∈ t.L, g' x = s.1 x) → SameOn t.rd s.2 H' → H'.length = s.2.length → HSim I β H' w → (∀ s x, g' s = some x → ARel I β w x (a.tmps.getD s undef)) → (∀ s, t.site = some s → β[s]? = some none) →
    (∀ v I' β' w', HSim I' β' (app H' t.u) w' → ARel I' β' w' t.r v → Evo I β w I' β' w' → (∀ s : Nat, β[s]? = some none → t.site ≠ some s → β'[s]? = some none) → next (a.put o.dst v) w') →
    if Region.wanted o (yielded ops a.tmps) = true then o.wp P a w next Q else next (a.put o.dst undef) w

theorem taken_app {d : Nat} {rn : List Nat} : ∀ {ids : List Nat} {Hc H : Heap}, Hc.length = ids.length → taken d rn ids Hc H = app H (updOf d rn ids Hc)
  | [], [], H, _ => by simp [taken, updOf, app]
  | [], x :: l, H, h => by simp at h
  | i :: l, [], H, h => by simp at h
  | i :: l, o :: Hc, H, h => by
    simp only [taken, updOf, app]
    exact taken_app (by simpa using h)

theorem passed_same {H H' : Heap} {d : Nat} {rn : List Nat} : ∀ {ids : List Nat} {Hc : Heap}, SameOn ids H H' → passed H d rn ids Hc → passed H' d rn ids Hc
  | [], [], _, _ => trivial
  | [], x :: l, _, h => by cases x <;> exact h
  | i :: l, [], _, h => h
  | i :: l, none :: Hc, _, h => h
  | i :: l, some o :: Hc, hs, h => ⟨(hs i (by simp)).trans h.1, passed_same (hs.sub fun x hx => by simp [hx]) h.2⟩

/-- A call in a statement that draws. -/
theorem vcFunD0_pin {f : FuncId} {args : List AV} {H : Heap} {K : AV → Upd → List Nat → Prop} (h : vcFunD0 P f args H K) : ∃ r u rd, K r u rd ∧
    ∀ (H' : Heap), SameOn rd H H' → H'.length = H.length → vcFun0 P f args H' (fun r' H2 => r' = r ∧ H2 = app H' u) := by
  rcases h with h | ⟨ids, Hc, as, r, Hc', h1, h2, h3, h4, h5, h6⟩
  · split at h
    · rename_i as0 hc
      obtain ⟨hok, as, r, he, hp, hsc, hk⟩ := h
      refine ⟨r, [], _, hk, fun H' hs hl => ?_⟩
      have ih : ∀ x ∈ args, conv H' x = conv H x ∧ (ok1 H' x = ok1 H x) ∧ ids1 H' x = ids1 H x := fun x hx => same_conv x (hs.sub fun id hid => List.mem_flatMap.2 ⟨x, hx, hid⟩)
      refine .inl ?_
      rw [mapO_congr (fun x hx => (ih x hx).1), hc, andL_congr (fun x hx => (ih x hx).2.1)]
      refine ⟨hok, as, _, he, hp, fun r' hr' => ?_⟩
      subst hr'
      have hids : args.flatMap (ids1 H') = args.flatMap (ids1 H) := flatMap_congr (fun x hx => (ih x hx).2.2)
      rcases Bool.or_eq_true_iff.1 hsc with h | h
      · exact .inl ⟨h, rfl, rfl⟩
      · refine .inr ⟨rfl, ?_⟩
        rw [hids, List.isEmpty_iff.1 h]; rfl
    · exact h.elim
  · refine ⟨_, _, _, h6, fun H' hs hl => .inr ⟨ids, Hc, as, _, h1, by rw [hl]; exact passed_same hs h2, by rw [hl]; exact h3, h4, fun r' Hx hp => ?_⟩⟩
    obtain ⟨rfl, rfl⟩ := hp
    refine ⟨by omega, ?_, ?_⟩
    · rw [h5, Nat.sub_self]; simp [tabl]
    · rw [h5, Nat.sub_self]; simp only [tabl, List.append_nil]; exact taken_app h5

theorem vcFunD_pin {f : FuncId} {args : List AV} {H : Heap} {K : AV → Upd → List Nat → Prop} (h : vcFunD P f args H K) : ∃ r u rd, K r u rd ∧
    ∀ (H' : Heap), SameOn rd H H' → H'.length = H.length → vcFun P f args H' (fun r' H2 => r' = r ∧ H2 = app H' u) := by
  obtain ⟨as, hle, h⟩ := h
  obtain ⟨r, u, rd, h1, h2⟩ := vcFunD0_pin h
  exact ⟨r, u, rd, h1, fun H' e1 e2 => ⟨as, hle, h2 H' e1 e2⟩⟩

/-- The call is entered. -/
theorem call_enter {I : Nat → Prop} {β : Beta} {w : World} {a : Act} {g : Nat → Option AV} (hs : ∀ s x, g s = some x → ARel I β w x (a.tmps.getD s undef)) {o : Oper} {f : Operand} {args : Array Operand} {ats : Array TypeId}
    (hop : o.op = .call { callee := .value f, args := args, argTypes := ats }) {fv : AV} {vs : List AV} (hfv : evF g f = some fv) (hvs : mapO (evF g) args.toList = some vs) {fid : FuncId} {caps : List AV}
    (hfc : fv = .fn fid caps ∨ ∃ ps, fv = .pv (.fn fid ps) ∧ caps = pvs ps) : ∃ vals : Array Value, vals.size = (vs ++ caps).length ∧ (∀ (j : Nat) c, (vs ++ caps)[j]? = some c → ARel I β w c (vals.getD j undef)) ∧
      (Enterable P fid → (execOp a.eval o).run P w = .ok (.enter fid vals) w) := by
  have hρ : ∀ x v, evF g x = some v → ARel I β w v (a.eval x) := fun x v hx => evF_sound hs hx
  have hm : vs.length = args.toList.length ∧ ∀ (j : Nat) y, vs[j]? = some y → ∃ x, args.toList[j]? = some x ∧ evF g x = some y := mapO_spec hvs
  obtain ⟨cv, hcv, hcl2, hcr⟩ := func_inv hfc (hρ _ _ hfv)
  refine ⟨args.map a.eval ++ cv, by simp [hm.1, hcl2], fun j c hj => ?_, fun hent => ?_⟩
  · rcases Nat.lt_or_ge j vs.length with h | h
    · rw [List.getElem?_append_left h] at hj
      obtain ⟨x, hx, hxe⟩ := hm.2 j c hj
      have hlt : j < args.size := by have := (List.getElem?_eq_some_iff.1 hx).1; simpa using this
      have e : (args.map a.eval ++ cv).getD j undef = a.eval x := by
        have hx2 : args[j] = x := by simpa [hlt] using hx
        have h1 : j < (args.map a.eval ++ cv).size := by simp; omega
        simp only [Array.getD, h1, dif_pos]
        show (args.map a.eval ++ cv)[j] = _
        rw [Array.getElem_append_left (by simpa using hlt)]
        simp [hx2]
      rw [e]; exact hρ _ _ hxe
    · rw [List.getElem?_append_right h] at hj
      have hlt := (List.getElem?_eq_some_iff.1 hj).1
      have hsz : vs.length = args.size := by simpa using hm.1
      have e : (args.map a.eval ++ cv).getD j undef = cv.getD (j - vs.length) undef := by
        have h1 : j < (args.map a.eval ++ cv).size := by simp; omega
        have h2 : j - vs.length < cv.size := by omega
        simp only [Array.getD, h1, h2, dif_pos]
        show (args.map a.eval ++ cv)[j] = cv[j - vs.length]
        rw [Array.getElem_append_right (by simp; omega)]
        simp [hsz]
      rw [e]; exact hcr _ c hj
  · obtain ⟨fn, hfn, hname, hbody⟩ := hent
    have hcf : (callFunc fid (args.map a.eval ++ cv)).run P w = .ok (.enter fid (args.map a.eval ++ cv)) w := by
      unfold callFunc
      simp only [Sem.run_bind, run_program, Result.andThen_ok, hfn, hname, Bool.false_eq_true, if_false, hbody, Sem.run_pure]
    simp only [execOp, hop, resolve, hcv, Deferred.ofValue, Sem.run_bind, Sem.run_pure, Result.andThen_ok, invoke]
    simpa using hcf

/-- What one step leaves. -/
def Stepped (P : Program) (ops : Array Oper) (dc : Known) (lo : Nat) (o : Oper) (s : St) (K : Slots → Heap → List Nat × List Nat → Prop) : Prop :=
  ∃ t : Tr, t.dst = o.dst ∧ t.L = o.looksAt ops ∧ t.site = (bif isAlloc o.op then some lo else none) ∧ (∀ b, knRes dc o.op = some b → t.r = vbool b) ∧
    (∃ Γ', get Γ' = (t.step s).1 ∧ K Γ' (t.step s).2 (t.rd, keysOf t.u)) ∧ Does P ops o t s

/-- One operation. -/
theorem vcStepD_does (hT : TabOk P T) {ops : Array Oper} {lo : Nat} {g : Nat → Option AV} {Γ : Slots} (hg : get Γ = g) {H : Heap} {dc : Known} (hk : KnOk dc g) {o : Oper} {K : Slots → Heap → List Nat × List Nat → Prop}
    (h : vcStepD P T lo o.dst (simpOp dc o.op) Γ H K) (hw : ∀ (g' : Nat → Option AV) (a : Act) (I : Nat → Prop) (β : Beta) (w : World), (∀ s ∈ o.looksAt ops, g' s = g s) → (∀ s x, g' s = some x → ARel I β w x (a.tmps.getD s undef)) → Region.wanted o (yielded ops a.tmps) = true) :
    Stepped P ops dc lo o (g, H) K := by
  have hcl : ∀ {c : Call}, o.op = .call c → knRes dc o.op = none := fun e => by rw [e]; rfl
  unfold vcStepD at h
  split at h
  · rename_i f args ats hop
    have hop' : o.op = .call { callee := .value f, args := args, argTypes := ats } := by
      have hop := hop
      cases ho : o.op <;> rw [ho] at hop <;> simp only [simpOp] at hop <;> try (cases hop; done)
      · split at hop <;> cases hop
      · exact hop
    have hia : isAlloc o.op = false := by rw [hop']; rfl
    rw [ev_eq, hg] at h
    split at h
    · rename_i fv vs hfv hvs
      have key : ∀ {fid : FuncId} {caps : List AV}, (fv = .fn fid caps ∨ ∃ ps, fv = .pv (.fn fid ps) ∧ caps = pvs ps) → vcFunD P fid (vs ++ caps) H (fun r u rd => putK Γ o.dst r fun Γ' => appK H u fun H2 => K Γ' H2 (rd, keysOf u)) → Stepped P ops dc lo o (g, H) K := by
        intro fid caps hfc hcall
        obtain ⟨r, u, rd, hk2, hp⟩ := vcFunD_pin hcall
        rw [putK_eq, appK_eq] at hk2
        refine ⟨⟨o.dst, o.looksAt ops, r, u, rd, none⟩, rfl, rfl, by rw [hia]; rfl, fun b hb => (by rw [hcl hop'] at hb; cases hb), ⟨_, by rw [get_put, hg]; rfl, hk2⟩, ?_⟩
        intro g' H' I β a w next Q h1 h2 h3 h4 h5 h6 h7
        rw [if_pos (hw g' a I β w h1 h5)]
        have hsame := evF_same (ops := ops) (o := o) (g := g) (g' := g') h1
        have hsf : evF g' f = some fv := by rw [hsame f (by rw [hop']; simp [Op.operands, Call.operands])]; exact hfv
        have hsa : mapO (evF g') args.toList = some vs := by
          rw [mapO_congr (fun x hx => hsame x (by rw [hop']; simp only [Op.operands, Call.operands]; simp at hx; simp [hx]))]; exact hvs
        obtain ⟨vals, hl, hrel, hrun⟩ := call_enter (P := P) h5 hop' hsf hsa hfc
        obtain ⟨hent, hout⟩ := vcFun_sound h4 hl hrel (hp H' h2 h3)
        unfold Oper.wp
        rw [hrun hent]
        simp only [Oper.upon]
        refine hout.mono fun e w' he => ?_
        obtain ⟨r', H2, I', β', v, rfl, ⟨rfl, rfl⟩, hH2, hr2, hevo, hfr⟩ := he
        exact h7 v I' β' w' hH2 hr2 hevo fun s hs _ => hfr s hs
      unfold vcCallD at h
      split at h
      · exact key (.inr ⟨_, rfl, rfl⟩) h
      · exact key (.inl rfl) h
      · exact h.elim
    · exact h.elim
  · have hop : vcOp T lo o.op (evF g) H fun r u rd => (putK Γ o.dst r fun Γ' => appK H u fun H2 => K Γ' H2 (rd, keysOf u)) ∧ ∀ b, knRes dc o.op = some b → r = vbool b := by
      rw [ev_eq, hg] at h
      exact kn_op hk h
    obtain ⟨r, u, rd, ⟨hk2, hkb⟩, hp⟩ := vcOp_pin hop
    rw [putK_eq, appK_eq] at hk2
    refine ⟨⟨o.dst, o.looksAt ops, r, u, rd, bif isAlloc o.op then some lo else none⟩, rfl, rfl, rfl, hkb, ⟨_, by rw [get_put, hg]; rfl, hk2⟩, ?_⟩
    intro g' H' I β a w next Q h1 h2 h3 h4 h5 h6 h7
    rw [if_pos (hw g' a I β w h1 h5)]
    have hop2 := hp (evF g') H' (fun r' u' rd' => r' = r ∧ u' = u) (evF_same h1) h2 ⟨rfl, rfl⟩
    obtain ⟨r', u', rd', ⟨rfl, rfl⟩, nx, v, w', hrun, hnx, I', β', hH', hr', hevo, hfr⟩ := vcOp_sound hT h4 (fun x v hx => evF_sound h5 hx) (o := o) (site := lo) (fun hal => h6 lo (by simp only [hal, cond_true])) hop2
    have hfin : next (a.put o.dst v) w' := h7 v I' β' w' hH' hr' hevo fun s hs hne => by
      refine hfr s hs fun e => ?_
      cases hia : isAlloc o.op
      · rw [hia] at e
        have := (List.getElem?_eq_some_iff.1 hs).1
        simp only [cond_false] at e; omega
      · rw [hia] at e hne
        simp only [cond_true] at e hne
        exact hne (by rw [e])
    unfold Oper.wp
    rw [hrun]
    rcases hnx with rfl | ⟨rfl, rfl⟩
    · exact hfin
    · exact hfin

end
end Go.Cw
