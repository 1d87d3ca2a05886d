/-
  Part 3 of the proof (CwXE, CwXF, CwT, CwTA, CwTB): what later parts use. No conditions.
-/
import Derived.Test.YtlhakdmenohdnaaMB2

/-
  Cw, part XE: what is computed is so.
-/
namespace Go.Cw
set_option linter.unusedVariables false
set_option linter.unusedSimpArgs false

theorem findI_spec : ∀ {l : List Nat} {x k m : Nat}, findI l x k = some m → k ≤ m ∧ l[m - k]? = some x
  | [], x, k, m, h => by simp [findI] at h
  | y :: l, x, k, m, h => by
    simp only [findI] at h
    cases hb : Nat.beq y x
    · rw [hb] at h
      obtain ⟨h1, h2⟩ := findI_spec (l := l) (by simpa using h)
      refine ⟨by omega, ?_⟩
      rw [show m - k = (m - (k + 1)) + 1 from by omega, List.getElem?_cons_succ]; exact h2
    · rw [hb] at h
      simp only [cond_true, Option.some.injEq] at h
      subst h
      have := Nat.eq_of_beq_eq_true hb
      simp [this]

theorem findI_getD {l : List Nat} {x m d : Nat} (h : findI l x 0 = some m) : l.getD m d = x := by
  have := (findI_spec h).2
  simp only [Nat.sub_zero] at this
  simp [List.getD, this]

mutual
theorem unC_ren {d : Nat} {rn : List Nat} : ∀ (x y : AV), unC rn x = some y → renC d rn y = x
  | .pv p, y, h => by simp only [unC, Option.some.injEq] at h; subst h; rfl
  | .agg cs, y, h => by
    simp only [unC] at h
    split at h
    · rename_i ds hds; injection h with h; subst h; simp only [renC]; rw [unL_ren cs ds hds]
    · cases h
  | .ms id z off len, y, h => by
    simp only [unC] at h
    split at h
    · rename_i k hk; injection h with h; subst h; simp only [renC]; rw [findI_getD hk]
    · cases h
  | .ptr id z row col, y, h => by
    simp only [unC] at h
    split at h
    · rename_i k hk; injection h with h; subst h; simp only [renC]; rw [findI_getD hk]
    · cases h
  | .fn f caps, y, h => by
    simp only [unC] at h
    split at h
    · rename_i ds hds; injection h with h; subst h; simp only [renC]; rw [unL_ren caps ds hds]
    · cases h
  | .tup vs, y, h => by
    simp only [unC] at h
    split at h
    · rename_i ds hds; injection h with h; subst h; simp only [renC]; rw [unL_ren vs ds hds]
    · cases h
  | .dead, y, h => by simp only [unC, Option.some.injEq] at h; subst h; rfl
theorem unL_ren {d : Nat} {rn : List Nat} : ∀ (x y : List AV), unL rn x = some y → renL d rn y = x
  | [], y, h => by simp only [unL, Option.some.injEq] at h; subst h; rfl
  | x :: l, y, h => by
    simp only [unL] at h
    split at h
    · rename_i a as ha has; injection h with h; subst h; simp only [renL]; rw [unC_ren x a ha, unL_ren l as has]
    · cases h
end

theorem unLL_ren {d : Nat} {rn : List Nat} : ∀ {x y : List (List AV)}, unLL rn x = some y → y.map (renL d rn) = x
  | [], y, h => by simp only [unLL, Option.some.injEq] at h; subst h; rfl
  | x :: l, y, h => by
    simp only [unLL] at h
    split at h
    · rename_i a as ha has; injection h with h; subst h; simp only [List.map_cons]; rw [unL_ren x a ha, unLL_ren has]
    · cases h

theorem unO_ren {d : Nat} {rn : List Nat} {o o' : AObj} (h : unO rn o = some o') : renO d rn o' = o := by
  obtain ⟨ty, z, fz, rows⟩ := o
  unfold unO at h
  split at h
  · rename_i r hr
    injection h with h; subst h
    simp only [renO, AObj.mk.injEq, true_and]
    cases rows with
    | box cs =>
      simp only [unRows] at hr
      split at hr
      · rename_i ds hds; injection hr with hr; subst hr; simp only [renRows]; rw [unL_ren cs ds hds]
      · cases hr
    | p xs => simp only [unRows, Option.some.injEq] at hr; subst hr; rfl
    | m xs =>
      simp only [unRows] at hr
      split at hr
      · rename_i ds hds; injection hr with hr; subst hr; simp only [renRows]; rw [unLL_ren hds]
      · cases hr
  · cases h

theorem unHeap_passed {H : Heap} {d : Nat} {rn : List Nat} : ∀ {ids : List Nat} {Hc : Heap}, unHeap H rn ids = some Hc → passed H d rn ids Hc
  | [], Hc, h => by simp only [unHeap, Option.some.injEq] at h; subst h; trivial
  | i :: l, Hc, h => by
    simp only [unHeap] at h
    split at h
    · rename_i o ho
      split at h
      · rename_i o' Hc' h1 h2
        injection h with h; subst h
        exact ⟨by rw [unO_ren h1]; exact ho, unHeap_passed h2⟩
      · cases h
    · cases h

theorem unHeapN_kept {H : Heap} {d : Nat} {rn : List Nat} : ∀ {ids : List Nat} {Hc : Heap}, unHeapN H rn ids = some Hc → kept H d rn ids Hc
  | [], Hc, h => by simp only [unHeapN, Option.some.injEq] at h; subst h; trivial
  | i :: l, Hc, h => by
    simp only [unHeapN] at h
    split at h
    · rename_i o ho
      split at h
      · rename_i o' Hc' h1 h2
        injection h with h; subst h
        exact ⟨by rw [unO_ren h1]; exact ho, unHeapN_kept h2⟩
      · cases h
    · split at h
      · rename_i Hc' h2
        injection h with h; subst h
        show kept H d rn l Hc'
        exact unHeapN_kept h2
      · cases h

theorem close_pre {H : Heap} : ∀ (n : Nat) (todo acc : List Nat), ∃ l, close H n todo acc = acc ++ l
  | 0, _, acc => ⟨[], by simp [close]⟩
  | n + 1, [], acc => ⟨[], by simp [close]⟩
  | n + 1, i :: l, acc => by
    simp only [close]
    cases memN acc i
    · simp only [cond_false]
      split
      · obtain ⟨l', h⟩ := close_pre (H := H) n (idsR _ l) (acc ++ [i])
        exact ⟨[i] ++ l', by rw [h]; simp⟩
      · exact close_pre n l acc
    · simp only [cond_true]; exact close_pre n l acc

theorem exPut_get : ∀ (Γ : Slots) (t : Nat) (v : AV), get (exPut Γ t v) = gput (get Γ) (some t) v
  | [], t, v => by funext s; simp only [exPut, get_cons, gput]
  | (k, x) :: l, t, v => by
    funext s
    simp only [exPut]
    cases hb : Nat.beq k t
    · simp only [cond_false, get_cons, gput]
      rw [exPut_get l t v]
      simp only [gput]
      have hne : k ≠ t := fun e => by subst e; simp at hb
      by_cases h1 : k = s
      · subst h1; rw [if_pos rfl, if_neg (fun e => hne e.symm), if_pos rfl]
      · rw [if_neg h1]
        by_cases h2 : t = s
        · rw [if_pos h2, if_pos h2]
        · rw [if_neg h2, if_neg h2, if_neg h1]
    · have := Nat.eq_of_beq_eq_true hb; subst this
      simp only [cond_true, get_cons, gput]
      by_cases h1 : k = s
      · rw [if_pos h1, if_pos h1]
      · rw [if_neg h1, if_neg h1, if_neg h1]

theorem exPutO_get (Γ : Slots) (d : Option Tmp) (v : AV) : get (exPutO Γ d v) = gput (get Γ) d v := by
  cases d with
  | none => rfl
  | some t => exact exPut_get Γ t v

def CallerOk (P : Program) (call : Caller) : Prop := ∀ f as Hc r H', call f as Hc = some (r, H') → ACall P f as Hc fun x Hx => x = r ∧ Hx = H'

section
variable {P : Program} {T : Tab} {n nh : Nat} {call : Caller}

theorem exFn_ok (hC : CallerOk P call) {f : FuncId} {args : List AV} {H : Heap} {r : AV} {H' : Heap} {u : Upd} {rd : List Nat} (h : exFn call f args H = some (r, H', u, rd)) {K : AV → Heap → Prop} (hk : K r H') : vcFun P f args H K := by
  simp only [exFn] at h
  split at h
  · rename_i as Hc h1 h2 h3
    split at h
    · rename_i r0 Hc' h4
      split at h
      · rename_i h5
        injection h with h; injection h with ha hb; injection hb with hb hc
        subst ha; subst hb
        refine ⟨_, ALeL.refl, .inr ⟨_, Hc, as, _, h3, unHeap_passed h2, (unL_ren _ _ h1).symm, hC _ _ _ _ _ h4, fun r Hx hp => ?_⟩⟩
        obtain ⟨rfl, rfl⟩ := hp
        exact ⟨Nat.le_of_ble_eq_true h5, hk⟩
      · cases h
    · cases h
  · cases h

theorem guard_intro {ops : List Oper} {Γ Γ0 : Slots} {dc : Known} {g : Option (Nat × Bool)} {b : Bool} {run skip : Known → Prop} (h : exGuard ops Γ g = some b) (hg : get Γ0 = get Γ) (hk : KnOk dc (get Γ0))
    (hr : ∀ dc', KnOk dc' (get Γ0) → if b then run dc' else skip dc') : vcGuard ops Γ0 dc g run skip := by
  unfold exGuard at h
  unfold vcGuard
  split at h
  · injection h with h; subst h
    exact hr dc hk
  · rename_i j want
    split at h
    · rename_i o ho
      split at h
      · rename_i d hd
        simp only [ho, hd]
        split
        · rename_i b' hb'
          have h1 := hk _ _ hb'
          rw [hg] at h1
          rw [h1] at h
          simp only [vbool, Option.some.injEq] at h
          subst h
          have := hr dc hk
          cases b' <;> cases want <;> simpa using this
        · split at h
          · rename_i b' hb'
            injection h with h; subst h
            rw [hg, hb']
            have hin : KnOk ((d, b') :: dc) (get Γ0) := fun s b2 hs' => by
              simp only [kn] at hs'
              cases hbeq : Nat.beq d s
              · rw [hbeq] at hs'; exact hk s b2 (by simpa using hs')
              · rw [hbeq] at hs'
                have := Nat.eq_of_beq_eq_true hbeq; subst this
                simp only [cond_true, Option.some.injEq] at hs'; subst hs'
                rw [hg]; exact hb'
            have := hr _ hin
            cases b' <;> cases want <;> simp at this ⊢ <;> exact this
          · rename_i hb'
            injection h with h; subst h
            rw [hg, hb']
            exact hr dc hk
          · cases h
      · cases h
    · cases h

theorem knOut_intro : ∀ {dc : Known} {s : Nat} {K : Known → Prop}, (∀ dc', (∀ t b, kn dc' t = some b → kn dc t = some b ∧ t ≠ s) → K dc') → knOut dc s K
  | [], s, K, h => h [] fun t b ht => by simp [kn] at ht
  | (k, b0) :: l, s, K, h => by
    simp only [knOut]
    split
    · rename_i hk
      have hk := Nat.eq_of_beq_eq_true hk; subst hk
      refine knOut_intro fun dc' h2 => h dc' fun t b ht => ?_
      obtain ⟨h3, h4⟩ := h2 t b ht
      refine ⟨?_, h4⟩
      simp only [kn]
      have : Nat.beq k t = false := by
        cases hb : Nat.beq k t
        · rfl
        · exact absurd (Nat.eq_of_beq_eq_true hb).symm h4
      rw [this]; exact h3
    · rename_i hk
      refine knOut_intro fun dc' h2 => h _ fun t b ht => ?_
      simp only [kn] at ht ⊢
      cases hb : Nat.beq k t
      · rw [hb] at ht
        exact ⟨by simpa using (h2 t b (by simpa using ht)).1, (h2 t b (by simpa using ht)).2⟩
      · rw [hb] at ht
        have := Nat.eq_of_beq_eq_true hb; subst this
        refine ⟨by simpa using ht, fun e => ?_⟩
        subst e
        simp at hk

theorem knOf_ex {dc : Known} {g : Nat → Option AV} (hk : KnOk dc g) {x : Operand} {b : Bool} (h : knOf dc x = some b) : evF g x = some (vbool b) := knOf_ok hk h

theorem exOp_simp {site : Nat} {op : Op} {dc : Known} {g : Nat → Option AV} (hk : KnOk dc g) {H : Heap} {o : Out} (h : exOp T site op (evF g) H = some o) : exOp T site (simpOp dc op) (evF g) H = some o ∧ ∀ b, knRes dc op = some b → o.1 = vbool b := by
  cases op with
  | pick c a b =>
    simp only [simpOp, knRes]
    simp only [exOp] at h
    split
    · rename_i hc
      rw [knOf_ex hk hc] at h
      refine ⟨h, fun b0 hb => ?_⟩
      rw [knOf_ex hk (show knOf dc a = some b0 from hb)] at h
      simp only [exPick, vbool, just, Option.some.injEq] at h
      rw [← h]; rfl
    · rename_i hc
      rw [knOf_ex hk hc] at h
      refine ⟨h, fun b0 hb => ?_⟩
      rw [knOf_ex hk (show knOf dc b = some b0 from hb)] at h
      simp only [exPick, vbool, just, Option.some.injEq] at h
      rw [← h]; rfl
    · rename_i hc
      exact ⟨h, fun b0 hb => by cases hb⟩
  | move x =>
    refine ⟨h, fun b hb => ?_⟩
    simp only [exOp] at h
    rw [knOf_ex hk (show knOf dc x = some b from hb)] at h
    simp only [just, Option.some.injEq] at h
    rw [← h]
  | assign x =>
    refine ⟨h, fun b hb => ?_⟩
    simp only [exOp] at h
    rw [knOf_ex hk (show knOf dc x = some b from hb)] at h
    simp only [just, Option.some.injEq] at h
    rw [← h]
  | _ => exact ⟨h, fun b hb => by cases hb⟩

theorem knPut_intro {dc : Known} {o : Oper} {g : Nat → Option AV} (hk : KnOk dc g) {r : AV} (hr : ∀ b, knRes dc o.op = some b → r = vbool b) {K : Known → Prop} (h : ∀ dc', KnOk dc' (gput g o.dst r) → K dc') : knPut dc o K := by
  unfold knPut
  split
  · rename_i d hd
    have old : ∀ {dc' : Known}, (∀ t b, kn dc' t = some b → kn dc t = some b ∧ t ≠ d) → KnOk dc' (gput g o.dst r) := fun h2 s b hs => by
      obtain ⟨h3, h4⟩ := h2 s b hs
      rw [hd]
      have hne : d ≠ s := fun e => h4 e.symm
      simp only [gput, if_neg hne]
      exact hk s b h3
    have new : ∀ {dc' : Known} {b0 : Bool}, (∀ t b, kn dc' t = some b → kn dc t = some b ∧ t ≠ d) → knRes dc o.op = some b0 → KnOk ((d, b0) :: dc') (gput g o.dst r) := fun h2 hb s b hs => by
      simp only [kn] at hs
      cases hbeq : Nat.beq d s
      · rw [hbeq] at hs; exact old h2 s b (by simpa using hs)
      · rw [hbeq] at hs
        have := Nat.eq_of_beq_eq_true hbeq; subst this
        simp only [cond_true, Option.some.injEq] at hs; subst hs
        rw [hd]
        simp only [gput, if_true]
        rw [hr _ hb]
    split
    · rename_i hb; exact knOut_intro fun dc' h2 => h _ (new h2 hb)
    · rename_i hb; exact knOut_intro fun dc' h2 => h _ (new h2 hb)
    · exact knOut_intro fun dc' h2 => h _ (old h2)
  · rename_i hd; exact h dc (by rw [hd]; exact hk)

theorem knSkip_intro {dc : Known} {o : Oper} {g : Nat → Option AV} (hk : KnOk dc g) {r : AV} {K : Known → Prop} (h : ∀ dc', KnOk dc' (gput g o.dst r) → K dc') : knSkip dc o K := by
  unfold knSkip
  split
  · rename_i d hd
    refine knOut_intro fun dc' h2 => h _ fun s b hs => ?_
    obtain ⟨h3, h4⟩ := h2 s b hs
    rw [hd]
    have hne : d ≠ s := fun e => h4 e.symm
    simp only [gput, if_neg hne]
    exact hk s b h3
  · rename_i hd; exact h dc (by rw [hd]; exact hk)

/-- One step. -/
theorem exStep_ok (hC : CallerOk P call) {lo : Nat} {dst : Option Tmp} {op : Op} {Γ Γ' : Slots} {H H' : Heap} (h : exStep T call lo dst op Γ H = some (Γ', H')) {dc : Known} {Γ0 : Slots} (hg : get Γ0 = get Γ) (hk : KnOk dc (get Γ0)) :
    ∃ r, get Γ' = gput (get Γ) dst r ∧ (∀ b, knRes dc op = some b → r = vbool b) ∧ ∀ K : Slots → Heap → Prop, (∀ Γ1, get Γ1 = get Γ' → K Γ1 H') → vcStep P T lo dst (simpOp dc op) Γ0 H K := by
  unfold exStep at h
  split at h
  · rename_i f args ats
    split at h
    · rename_i fv vs hfv hvs
      split at h
      · rename_i fid caps hcall
        split at h
        · rename_i r H2 u rd hex
          injection h with h; injection h with ha hb; subst ha; subst hb
          refine ⟨r, exPutO_get _ _ _, fun b hb => (by cases hb), fun K hK => ?_⟩
          have hev : ev Γ0 = ev Γ := by rw [ev_eq, ev_eq, hg]
          simp only [simpOp, vcStep, hev, hfv, hvs]
          have fin : vcFun P fid (vs ++ caps) H (fun r H' => putK Γ0 dst r fun Γ' => forceH H' fun H2 => K Γ' H2) := exFn_ok hC hex (by
            rw [putK_eq, forceH_eq]
            exact hK _ (by rw [get_put, exPutO_get, hg]))
          unfold callOf at hcall
          split at hcall
          · injection hcall with hcall; injection hcall with h1 h2; subst h1; subst h2; exact fin
          · injection hcall with hcall; injection hcall with h1 h2; subst h1; subst h2; exact fin
          · cases hcall
        · cases h
      · cases h
    · cases h
  · rename_i hno
    split at h
    · rename_i r u rd hex
      injection h with h; injection h with ha hb; subst ha; subst hb
      rw [ev_eq, ← hg] at hex
      obtain ⟨h1, h2⟩ := exOp_simp hk hex
      refine ⟨r, exPutO_get _ _ _, h2, fun K hK => ?_⟩
      have hv : vcOp T lo (simpOp dc op) (ev Γ0) H fun r u _ => putK Γ0 dst r fun Γ' => appK H u fun H2 => K Γ' H2 := by
        rw [ev_eq]
        refine exOp_ok h1 ?_
        rw [putK_eq, appK_eq]
        exact hK _ (by rw [get_put, exPutO_get, hg])
      unfold vcStep
      split
      · rename_i f args ats heq
        exfalso
        cases op <;> simp only [simpOp] at heq <;> try (cases heq; done)
        · split at heq <;> cases heq
        · injection heq with heq; subst heq; exact hno _ _ _ rfl
      · exact hv
    · cases h

theorem exOps_ok (hC : CallerOk P call) {all : List Oper} {Γ' : Slots} {H' : Heap} {K : Slots → Heap → Prop} (hK : ∀ Γ1, get Γ1 = get Γ' → K Γ1 H') : ∀ (l : List Oper) (lo : Nat) (Γ : Slots) (H : Heap) (dc : Known) (Γ0 : Slots),
    exOps T n call all l lo Γ H = some (Γ', H') → get Γ0 = get Γ → KnOk dc (get Γ0) → vcOps P T n all l lo K dc Γ0 H
  | [], lo, Γ, H, dc, Γ0, h, hg, hk => by
    simp only [exOps, Option.some.injEq] at h
    injection h with ha hb; subst ha; subst hb
    exact hK _ hg
  | o :: l, lo, Γ, H, dc, Γ0, h, hg, hk => by
    simp only [exOps] at h
    have key : ∀ lo', (bif isAlloc o.op then lo + 1 else lo) = lo' → dstOk n o = true → vcGuard all Γ0 dc o.guard (fun dc' => knPut dc' o fun d2 => vcStep P T lo o.dst (simpOp dc' o.op) Γ0 H (vcOps P T n all l lo' K d2))
        (fun dc' => knSkip dc' o fun d2 => putK Γ0 o.dst (.pv (.val undef)) fun Γ' => vcOps P T n all l lo' K d2 Γ' H) := fun lo' hlo hd => by
      rw [hlo] at h
      split at h
      · rename_i hgd
        refine guard_intro hgd hg hk fun dc' hk' => ?_
        simp only [if_true]
        split at h
        · rename_i Γ1 H1 hstep
          obtain ⟨r, h1, h2, h3⟩ := exStep_ok (P := P) hC hstep hg hk'
          refine knPut_intro hk' h2 fun d2 hk2 => h3 _ fun Γ2 hg2 => ?_
          exact exOps_ok hC hK l lo' Γ1 H1 d2 Γ2 h hg2 (by rw [hg2, h1, ← hg]; exact hk2)
        · cases h
      · rename_i hgd
        refine guard_intro hgd hg hk fun dc' hk' => ?_
        simp only [Bool.false_eq_true, if_false]
        refine knSkip_intro hk' (r := .pv (.val undef)) fun d2 hk2 => ?_
        rw [putK_eq]
        exact exOps_ok hC hK l lo' _ H d2 _ h (by rw [get_put, exPutO_get, hg]) (by rw [get_put]; exact hk2)
      · cases h
    have hd : dstOk n o = true := by
      split at h
      · rename_i hd _; exact hd
      · rename_i hd _; exact hd
      · cases h
    simp only [vcOps, hd]
    cases ha : isAlloc o.op
    · exact key lo (by rw [ha]; rfl) hd
    · exact key (lo + 1) (by rw [ha]; rfl) hd

end
end Go.Cw

/-
  Cw, part XF: statements, code and functions that are run by computation.
-/
namespace Go.Cw
set_option linter.unusedVariables false
set_option linter.unusedSimpArgs false
section
variable {P : Program} {T : Tab} {n nh : Nat} {call : Caller}

theorem exStepD_ok (hC : CallerOk P call) {lo : Nat} {dst : Option Tmp} {op : Op} {Γ Γ' : Slots} {H H' : Heap} {f : List Nat × List Nat} (h : exStepD T call lo dst op Γ H = some (Γ', H', f)) {dc : Known} {Γ0 : Slots} (hg : get Γ0 = get Γ) (hk : KnOk dc (get Γ0)) :
    ∃ r, get Γ' = gput (get Γ) dst r ∧ (∀ b, knRes dc op = some b → r = vbool b) ∧ ∀ K : Slots → Heap → List Nat × List Nat → Prop, (∀ Γ1, get Γ1 = get Γ' → K Γ1 H' f) → vcStepD P T lo dst (simpOp dc op) Γ0 H K := by
  unfold exStepD at h
  split at h
  · rename_i f0 args ats
    split at h
    · rename_i fv vs hfv hvs
      split at h
      · rename_i fid caps hcall
        simp only at h
        split at h
        · rename_i as Hc g1 g2 g3
          split at h
          · rename_i r Hc' g4
            split at h
            · rename_i g5
              injection h with h; injection h with ha hb; injection hb with hb hc; subst ha; subst hb; subst hc
              refine ⟨_, exPutO_get _ _ _, fun b hb => (by cases hb), fun K hK => ?_⟩
              have hev : ev Γ0 = ev Γ := by rw [ev_eq, ev_eq, hg]
              simp only [simpOp, vcStepD, hev, hfv, hvs]
              have fin : vcFunD P fid (vs ++ caps) H (fun r u rd => putK Γ0 dst r fun Γ' => appK H u fun H2 => K Γ' H2 (rd, keysOf u)) :=
                ⟨_, ALeL.refl, .inr ⟨_, Hc, as, r, Hc', g3, unHeap_passed g2, (unL_ren _ _ g1).symm, hC _ _ _ _ _ g4, Nat.eq_of_beq_eq_true g5, by
                  dsimp only
                  rw [putK_eq, appK_eq]
                  exact hK _ (by rw [get_put, exPutO_get, hg])⟩⟩
              unfold callOf at hcall
              split at hcall
              · injection hcall with hcall; injection hcall with h1 h2; subst h1; subst h2; exact fin
              · injection hcall with hcall; injection hcall with h1 h2; subst h1; subst h2; exact fin
              · cases hcall
            · cases h
          · cases h
        · cases h
      · cases h
    · cases h
  · rename_i hno
    split at h
    · rename_i r u rd hex
      injection h with h; injection h with ha hb; injection hb with hb hc; subst ha; subst hb; subst hc
      rw [ev_eq, ← hg] at hex
      obtain ⟨h1, h2⟩ := exOp_simp hk hex
      refine ⟨r, exPutO_get _ _ _, h2, fun K hK => ?_⟩
      have hv : vcOp T lo (simpOp dc op) (ev Γ0) H fun r u rd => putK Γ0 dst r fun Γ' => appK H u fun H2 => K Γ' H2 (rd, keysOf u) := by
        rw [ev_eq]
        refine exOp_ok h1 ?_
        rw [putK_eq, appK_eq]
        exact hK _ (by rw [get_put, exPutO_get, hg])
      unfold vcStepD
      split
      · rename_i f args ats heq
        exfalso
        cases op <;> simp only [simpOp] at heq <;> try (cases heq; done)
        · split at heq <;> cases heq
        · injection heq with heq; subst heq; exact hno _ _ _ rfl
      · exact hv
    · cases h

theorem exOpsD_ok (hC : CallerOk P call) {all : List Oper} {fs' : List (List Nat × List Nat)} {Γ' : Slots} {H' : Heap} {K : List (List Nat × List Nat) → Slots → Heap → Prop} (hK : ∀ Γ1, get Γ1 = get Γ' → K fs' Γ1 H') :
    ∀ (l : List Oper) (lo : Nat) (fs : List (List Nat × List Nat)) (Γ : Slots) (H : Heap) (dc : Known) (Γ0 : Slots), exOpsD T n call all l lo fs Γ H = some (fs', Γ', H') → get Γ0 = get Γ → KnOk dc (get Γ0) → vcOpsD P T n all l lo K fs dc Γ0 H
  | [], lo, fs, Γ, H, dc, Γ0, h, hg, hk => by
    simp only [exOpsD, Option.some.injEq] at h
    injection h with ha hb; injection hb with hb hc; subst ha; subst hb; subst hc
    exact hK _ hg
  | o :: l, lo, fs, Γ, H, dc, Γ0, h, hg, hk => by
    simp only [exOpsD] at h
    have key : ∀ lo', (bif isAlloc o.op then lo + 1 else lo) = lo' → dstOk n o = true → vcGuard all Γ0 dc o.guard (fun dc' => knPut dc' o fun d2 => vcStepD P T lo o.dst (simpOp dc' o.op) Γ0 H fun Γ' H' f => vcOpsD P T n all l lo' K (f :: fs) d2 Γ' H')
        (fun dc' => knSkip dc' o fun d2 => putK Γ0 o.dst (.pv (.val undef)) fun Γ' => vcOpsD P T n all l lo' K (([], []) :: fs) d2 Γ' H) := fun lo' hlo hd => by
      rw [hlo] at h
      split at h
      · rename_i hgd
        refine guard_intro hgd hg hk fun dc' hk' => ?_
        simp only [if_true]
        split at h
        · rename_i Γ1 H1 f1 hstep
          obtain ⟨r, h1, h2, h3⟩ := exStepD_ok (P := P) hC hstep hg hk'
          refine knPut_intro hk' h2 fun d2 hk2 => h3 _ fun Γ2 hg2 => ?_
          exact exOpsD_ok hC hK l lo' _ Γ1 H1 d2 Γ2 h hg2 (by rw [hg2, h1, ← hg]; exact hk2)
        · cases h
      · rename_i hgd
        refine guard_intro hgd hg hk fun dc' hk' => ?_
        simp only [Bool.false_eq_true, if_false]
        refine knSkip_intro hk' (r := .pv (.val undef)) fun d2 hk2 => ?_
        rw [putK_eq]
        exact exOpsD_ok hC hK l lo' _ _ H d2 _ h (by rw [get_put, exPutO_get, hg]) (by rw [get_put]; exact hk2)
      · cases h
    have hd : dstOk n o = true := by
      split at h
      · rename_i hd _; exact hd
      · rename_i hd _; exact hd
      · cases h
    simp only [vcOpsD, hd]
    cases ha : isAlloc o.op
    · exact key lo (by rw [ha]; rfl) hd
    · exact key (lo + 1) (by rw [ha]; rfl) hd

theorem exRegion_ok (hC : CallerOk P call) {ops : Array Oper} {draw : Bool} {Γ Γ' : Slots} {H H' : Heap} (h : exRegion T n call ops draw Γ H = some (Γ', H')) {K : Slots → Heap → Prop} (hK : ∀ Γ1, get Γ1 = get Γ' → K Γ1 H')
    {Γ0 : Slots} (hg : get Γ0 = get Γ) : vcRegion P T n ops draw K Γ0 H := by
  unfold exRegion at h
  unfold vcRegion
  cases draw with
  | false =>
    simp only at h ⊢
    split
    · rename_i h0
      rw [h0] at h
      exact exOps_ok hC hK _ _ _ _ [] _ h hg (knOk_nil _)
    · rename_i m h0
      rw [h0] at h
      rw [lenK_eq, forceH_eq, Nat.zero_add]
      exact exOps_ok hC hK _ _ _ _ [] _ h hg (knOk_nil _)
  | true =>
    simp only at h ⊢
    split at h
    · rename_i fs Γ1 H1 hex
      split at h
      · rename_i hd
        injection h with h; injection h with ha hb; subst ha; subst hb
        split
        · rename_i h0
          rw [h0] at hex
          exact exOpsD_ok hC (K := fun fs Γ' H' => drawOk ops fs.reverse = true ∧ K Γ' H') (fun Γ2 hg2 => ⟨hd, hK Γ2 hg2⟩) _ _ _ _ _ [] _ hex hg (knOk_nil _)
        · rename_i m h0
          rw [h0] at hex
          rw [lenK_eq, forceH_eq, Nat.zero_add]
          exact exOpsD_ok hC (K := fun fs Γ' H' => drawOk ops fs.reverse = true ∧ K Γ' H') (fun Γ2 hg2 => ⟨hd, hK Γ2 hg2⟩) _ _ _ _ _ [] _ hex hg (knOk_nil _)
      · cases h
    · cases h

theorem exCode_ok (hC : CallerOk P call) : ∀ (k : Nat),
    (∀ (c : Code) (Γ : Slots) (H : Heap) (e : Exit) (Γ' : Slots) (H' : Heap), exCode T n call k c Γ H = some (e, Γ', H') → ∀ (Q : Exit → Slots → Heap → Prop), (∀ Γ1, get Γ1 = get Γ' → Q e Γ1 H') → ∀ Γ0, get Γ0 = get Γ → vcCode P T n nh c Q Γ0 H) ∧
    (∀ (c : Code) (Γ : Slots) (H : Heap) (e : Exit) (Γ' : Slots) (H' : Heap), exCode T n call k (.loop c) Γ H = some (e, Γ', H') → ∀ (Q : Exit → Slots → Heap → Prop), (∀ Γ1, get Γ1 = get Γ' → Q e Γ1 H') → ∃ m, ∀ Γ0, get Γ0 = get Γ → rounds (vcCode P T n nh c) Q m Γ0 H)
  | 0 => ⟨fun c Γ H e Γ' H' h => by simp [exCode] at h, fun c Γ H e Γ' H' h => by simp [exCode] at h⟩
  | k + 1 => by
    obtain ⟨ihA, ihB⟩ := exCode_ok hC k
    have loop : ∀ (c : Code) (Γ : Slots) (H : Heap) (e : Exit) (Γ' : Slots) (H' : Heap), exCode T n call (k + 1) (.loop c) Γ H = some (e, Γ', H') → ∀ (Q : Exit → Slots → Heap → Prop), (∀ Γ1, get Γ1 = get Γ' → Q e Γ1 H') → ∃ m, ∀ Γ0, get Γ0 = get Γ → rounds (vcCode P T n nh c) Q m Γ0 H := fun c Γ H e Γ' H' h Q hQ => by
      simp only [exCode] at h
      split at h
      · rename_i Γ1 H1 h1
        obtain ⟨m, hm⟩ := ihB c Γ1 H1 e Γ' H' h Q hQ
        exact ⟨m + 1, fun Γ0 hg => ihA c Γ H .normal Γ1 H1 h1 _ (fun Γ2 hg2 => hm Γ2 hg2) Γ0 hg⟩
      · rename_i r hne
        refine ⟨1, fun Γ0 hg => ihA c Γ H e Γ' H' h _ (fun Γ2 hg2 => ?_) Γ0 hg⟩
        cases e <;> simp only [thenQ]
        case normal => exact absurd h (hne _ _)
        all_goals exact hQ _ hg2
    refine ⟨fun c Γ H e Γ' H' h Q hQ Γ0 hg => ?_, loop⟩
    have e3 : ∀ {a b : Exit} {Γ1 Γ2 : Slots} {H1 H2 : Heap}, some (a, Γ1, H1) = some (b, Γ2, H2) → a = b ∧ Γ1 = Γ2 ∧ H1 = H2 := fun h => by
      injection h with h; injection h with h1 h; injection h with h2 h3; exact ⟨h1, h2, h3⟩
    cases c with
    | skip => simp only [exCode] at h; obtain ⟨rfl, rfl, rfl⟩ := e3 h; exact hQ _ hg
    | label l => simp only [exCode] at h; obtain ⟨rfl, rfl, rfl⟩ := e3 h; exact hQ _ hg
    | region id ops draw =>
      simp only [exCode] at h
      split at h
      · rename_i h1; obtain ⟨rfl, rfl, rfl⟩ := e3 h
        exact gh.same (.inl (exRegion_ok hC h1 hQ hg))
      · cases h
    | seq a b =>
      simp only [exCode] at h
      simp only [vcCode]
      refine gh.same ?_
      split at h
      · rename_i Γ1 H1 h1
        exact ihA a Γ H .normal Γ1 H1 h1 _ (fun Γ2 hg2 => ihA b Γ1 H1 e Γ' H' h Q hQ Γ2 hg2) Γ0 hg
      · rename_i r hne
        refine ihA a Γ H e Γ' H' h _ (fun Γ2 hg2 => ?_) Γ0 hg
        cases e <;> simp only [thenQ]
        case normal => exact absurd h (hne _ _)
        all_goals exact hQ _ hg2
    | cond c x y =>
      simp only [exCode] at h
      have hev : ev Γ0 = ev Γ := by rw [ev_eq, ev_eq, hg]
      simp only [vcCode]
      refine gh.same ?_
      rw [hev]
      split at h
      · rename_i h1; rw [h1]; exact ⟨fun _ => ihA x Γ H e Γ' H' h Q hQ Γ0 hg, fun e => by cases e⟩
      · rename_i h1; rw [h1]; exact ⟨fun e => (by cases e), fun _ => ihA y Γ H e Γ' H' h Q hQ Γ0 hg⟩
      · cases h
    | block id c =>
      simp only [exCode] at h
      simp only [vcCode]
      refine gh.same ?_
      split at h
      · rename_i id' Γ1 H1 h1
        refine ihA c Γ H (.exit id') Γ1 H1 h1 _ (fun Γ2 hg2 => ?_) Γ0 hg
        simp only [inBlockQ]
        cases hb : Nat.beq id' id
        · rw [hb] at h; obtain ⟨rfl, rfl, rfl⟩ := e3 h; exact hQ _ hg2
        · rw [hb] at h; obtain ⟨rfl, rfl, rfl⟩ := e3 h; exact hQ _ hg2
      · rename_i r hne
        refine ihA c Γ H e Γ' H' h _ (fun Γ2 hg2 => ?_) Γ0 hg
        cases e <;> simp only [inBlockQ]
        case exit => exact absurd h (hne _ _ _)
        all_goals exact hQ _ hg2
    | scope c =>
      simp only [exCode] at h
      simp only [vcCode]
      refine gh.same ?_
      split at h
      · cases h
      · rename_i r hne
        refine ihA c Γ H e Γ' H' h _ (fun Γ2 hg2 => ?_) Γ0 hg
        cases e <;> simp only [noGotoQ]
        case goto => exact absurd h (hne _ _ _)
        all_goals exact hQ _ hg2
    | loop c =>
      simp only [vcCode]
      obtain ⟨m, hm⟩ := loop c Γ H e Γ' H' h Q hQ
      exact gh.same (.inr ⟨m, hm Γ0 hg⟩)
    | exit id => simp only [exCode] at h; obtain ⟨rfl, rfl, rfl⟩ := e3 h; exact hQ _ hg
    | ret => simp only [exCode] at h; obtain ⟨rfl, rfl, rfl⟩ := e3 h; exact gh.same (hQ _ hg)
    | _ => simp [exCode] at h

theorem resOf_congr {Γ Γ0 : Slots} (hg : get Γ0 = get Γ) {H : Heap} : ∀ (rs : List ResultVar), resOf T Γ0 H rs = resOf T Γ H rs
  | [] => rfl
  | .tmp t :: l => by simp only [resOf, hg, resOf_congr hg l]
  | .cell a t :: l => by simp only [resOf, hg, resOf_congr hg l]

theorem exRet_ok {k : Nat} {r : AV} {H : Heap} {r' : AV} {H' : Heap} (h : exRet k r H = some (r', H')) : retOk k r H fun x Hx => x = r' ∧ Hx = H' := by
  simp only [exRet] at h
  split at h
  · rename_i r0 H0 h1 h2 h3
    injection h with h; injection h with ha hb; subst ha; subst hb
    refine ⟨_, _, h3, ?_, unHeapN_kept h2, .inl ⟨_, (unC_ren _ _ h1).symm, rfl, rfl⟩⟩
    obtain ⟨l, hl⟩ := close_pre (H := H) 100000 (idsV r (rowsOfIds H (tabl 0 k) [])) (tabl 0 k)
    rw [hl, List.take_append_of_le_length (by rw [tabl_length]; exact Nat.le_refl _), List.take_of_length_le (by rw [tabl_length]; exact Nat.le_refl _)]
  · cases h

/-- Every function that is run by computation keeps the contract that the run tells. -/
theorem exFun_ok (hT : TabOk P T) {F : FTab} (hF : FTabOk P F) (hm : P.follows .mixedOrders = true) (fuel : Nat) : ∀ d, CallerOk P (exFun T F fuel d)
  | 0 => fun f as Hc r H' h => by simp [exFun] at h
  | d + 1 => fun f as Hc r H' h => by
    simp only [exFun] at h
    split at h
    · rename_i fd hfd
      have hfo := hF _ _ hfd
      unfold fnOf at hfo
      split at hfo
      · rename_i fn hfn
        split at hfo
        · rename_i c hbody hname
          injection hfo with hfo; subst hfo
          simp only at h
          split at h
          · rename_i hle
            split at h
            · rename_i e Γ' H2 hex
              refine acall_of_code hT hm (fun _ _ _ => draws_ok hT hm) hfn hname hbody (Nat.le_of_ble_eq_true hle) ?_
              refine (exCode_ok (nh := Hc.length) (exFun_ok hT hF hm fuel d) fuel).1 c _ _ e Γ' H2 hex _ (fun Γ1 hg1 => ?_) _ rfl
              have fin : ∀ (_ : (match resOf T Γ' H2 fn.results.toList with
                  | some [r] => exRet Hc.length r H2
                  | some rs => exRet Hc.length (.tup rs) H2
                  | none => none) = some (r, H')), (match resOf T Γ1 H2 fn.results.toList with
                  | some [r0] => retOk Hc.length r0 H2 fun x Hx => x = r ∧ Hx = H'
                  | some rs => retOk Hc.length (.tup rs) H2 fun x Hx => x = r ∧ Hx = H'
                  | none => False) := fun h => by
                rw [resOf_congr hg1]
                split at h
                · exact exRet_ok h
                · rename_i rs hne h1
                  match rs, hne, h with
                  | [], _, h => exact exRet_ok h
                  | [a], hne, _ => exact absurd rfl (hne a)
                  | a :: b :: l, _, h => exact exRet_ok h
                · cases h
              cases e with
              | normal => exact fin h
              | ret => exact fin h
              | _ => cases h
            · cases h
          · cases h
        · cases hfo
      · cases hfo
    · cases h

end
end Go.Cw

/-
  Cw, part T: the words of walks.
-/
namespace Go.Cw
section
variable {P : Program} {T : Tab} {n : Nat} {H : Heap} {K : AV → Heap → Prop} {f : FuncId} {args as0 as : List AV} {v : AV}

theorem ret_pure {r r0 : AV} {Post : AV → Prop} (hc : conv H r = some r0) (hok : ok1 H r) (h : Post r0) : retOk 0 r H (fun r H' => H' = [] ∧ Post r) := by
  refine ⟨[], [], rfl, rfl, trivial, .inr ?_⟩
  rw [hc]
  refine ⟨hok, r0, rfl, ?_, rfl, h⟩
  simp [disj]

/-- A call with pure arguments whose result is a scalar. -/
theorem call_scal {Post : AV → Prop} (hc : mapO (conv H) args = some as0) (hok : andL (ok1 H) args) (hle : ALeL as0 as) (hp : PCall P f as Post) (hK : ∀ r, Post r → scal r = true ∧ K r H) : vcFun P f args H K := by
  refine ⟨args, ALeL.refl, .inl ?_⟩
  rw [hc]
  exact ⟨hok, as0, Post, rfl, hp.le_args hle, fun r hr => .inl (hK r hr)⟩

theorem call_eq (hc : mapO (conv H) args = some as0) (hok : andL (ok1 H) args) (hle : ALeL as0 as) (hp : PCall P f as (fun r => r = v)) (hv : scal v = true) (hK : K v H) : vcFun P f args H K :=
  call_scal hc hok hle hp fun r hr => by subst hr; exact ⟨hv, hK⟩

/-- A call with pure arguments; what they lead to is frozen. -/
theorem call_frz {Post : AV → Prop} (hc : mapO (conv H) args = some as0) (hok : andL (ok1 H) args) (hle : ALeL as0 as) (hp : PCall P f as Post) (hK : ∀ r, Post r → K r (app H (frz H (args.flatMap (ids1 H))))) : vcFun P f args H K := by
  refine ⟨args, ALeL.refl, .inl ?_⟩
  rw [hc]
  exact ⟨hok, as0, Post, rfl, hp.le_args hle, fun r hr => .inr (hK r hr)⟩

/-- A call that is handed objects. -/
theorem call_obj {Post : AV → Heap → Prop} (ids : List Nat) (Hc : Heap) (as : List AV) (hd : allD ids = true) (hp : passed H H.length ids ids Hc) (ha : args = renL H.length ids as) (hc : ACall P f as Hc Post)
    (hK : ∀ r Hc', Post r Hc' → ids.length ≤ Hc'.length ∧ K (renC 0 (ids ++ tabl H.length (Hc'.length - ids.length)) r) (taken 0 (ids ++ tabl H.length (Hc'.length - ids.length)) ids Hc' H)) : vcFun P f args H K :=
  ⟨args, ALeL.refl, .inr ⟨ids, Hc, as, Post, hd, hp, ha, hc, hK⟩⟩

theorem callD_eq {K : AV → Upd → List Nat → Prop} (hc : mapO (conv H) args = some as0) (hok : andL (ok1 H) args) (hle : ALeL as0 as) (hp : PCall P f as (fun r => r = v)) (hv : scal v || (args.flatMap (ids1 H)).isEmpty = true) (hK : K v [] (args.flatMap (rds1 H))) : vcFunD P f args H K := by
  refine ⟨args, ALeL.refl, .inl ?_⟩
  rw [hc]
  exact ⟨hok, as0, v, rfl, ACall.le_args hle hp, by simpa using hv, hK⟩

theorem callD_obj {K : AV → Upd → List Nat → Prop} {r : AV} {Hc' : Heap} (ids : List Nat) (Hc : Heap) (as : List AV) (hd : allD ids = true) (hp : passed H H.length ids ids Hc) (ha : args = renL H.length ids as)
    (hc : ACall P f as Hc (fun x Hx => x = r ∧ Hx = Hc')) (hl : Hc'.length = ids.length) (hK : K (renC 0 ids r) (updOf 0 ids ids Hc') ids) : vcFunD P f args H K :=
  ⟨args, ALeL.refl, .inr ⟨ids, Hc, as, r, Hc', hd, hp, ha, hc, hl, hK⟩⟩

/-- A call that is handed one object, of pure cells. -/
theorem call_one {i : Nat} {o : AObj} {Post : AV → Heap → Prop} (hi : H[i]? = some (some o)) (ho : ∀ d rn, renO d rn o = o) (as : List AV) (ha : args = renL H.length [i] as) (hc : ACall P f as [some o] Post)
    (hK : ∀ r Hc', Post r Hc' → ∃ o', Hc' = [some o'] ∧ (∀ d rn, renO d rn o' = o') ∧ (∀ d rn, renC d rn r = r) ∧ K r (H.set i (some o'))) : vcFun P f args H K := by
  refine call_obj [i] [some o] as rfl ⟨by rw [ho]; exact hi, trivial⟩ ha hc fun r Hc' hp => ?_
  obtain ⟨o', rfl, h1, h2, h3⟩ := hK r Hc' hp
  refine ⟨Nat.le_refl _, ?_⟩
  simp only [List.length_cons, List.length_nil, Nat.sub_self, tabl, List.append_nil, taken, renOpt, h1, h2, List.map_nil]
  exact h3

/-- A call that is handed pure values and makes one object. -/
theorem call_new {o : AObj} {z : Nat} (as : List AV) (ha : args = renL H.length [] as) (hc : ACall P f as [] (fun r H' => r = .ptr 0 z 0 0 ∧ H' = [some o])) (ho : ∀ d rn, renO d rn o = o) (hK : K (.ptr H.length z 0 0) (H ++ [some o])) : vcFun P f args H K := by
  refine call_obj [] [] as rfl trivial ha hc fun r Hc' hp => ?_
  obtain ⟨rfl, rfl⟩ := hp
  refine ⟨Nat.zero_le _, ?_⟩
  simp only [List.length_cons, List.length_nil, tabl, List.nil_append, taken, renOpt, ho, List.map_cons, List.map_nil]
  exact hK

theorem callD_one {K : AV → Upd → List Nat → Prop} {i : Nat} {o o' : AObj} {r : AV} (hi : H[i]? = some (some o)) (ho : ∀ d rn, renO d rn o = o) (as : List AV) (ha : args = renL H.length [i] as) (hc : ACall P f as [some o] (fun x Hx => x = r ∧ Hx = [some o']))
    (ho' : ∀ d rn, renO d rn o' = o') (hr : ∀ d rn, renC d rn r = r) (hK : K r [(i, some o')] [i]) : vcFunD P f args H K := by
  refine callD_obj [i] [some o] as rfl ⟨by rw [ho]; exact hi, trivial⟩ ha hc rfl ?_
  simp only [updOf, renOpt, ho', hr]
  exact hK

/-- A result and objects are handed back. -/
theorem ret_obj {k : Nat} {r r' : AV} {H : Heap} {Post : AV → Heap → Prop} (rn : List Nat) (H' : Heap) (hd : allD rn = true) (ht : rn.take k = tabl 0 k) (hk : kept H H.length rn rn H') (hr : r = renC H.length rn r') (h : Post r' H') : retOk k r H Post :=
  ⟨rn, H', hd, ht, hk, .inl ⟨r', hr, h⟩⟩

/-- A pure result, and objects. -/
theorem ret_conv {k : Nat} {r r0 : AV} {H : Heap} {Post : AV → Heap → Prop} (rn : List Nat) (H' : Heap) (hd : allD rn = true) (ht : rn.take k = tabl 0 k) (hk : kept H H.length rn rn H') (hc : conv H r = some r0) (hok : ok1 H r) (hdis : disj (ids1 H r) rn = true) (h : Post r0 H') : retOk k r H Post := by
  refine ⟨rn, H', hd, ht, hk, .inr ?_⟩
  rw [hc]
  exact ⟨hok, r0, rfl, hdis, h⟩

theorem slot_eq {Γ : Slots} {s : Nat} {x y : AV} (h : get Γ s = some x) (e : x = y) : get Γ s = some y := e ▸ h

theorem wrap64 {x : Int} (h1 : -9223372036854775808 ≤ x) (h2 : x ≤ 9223372036854775807) : IntKind.i64.wrap x = x := by
  simp only [IntKind.wrap, IntKind.bits, IntKind.signed] at *
  first | omega | (simp; omega)

theorem at_map {α β : Type} {f : α → β} {l : List α} {i : Nat} {x : α} (h : l[i]? = some x) : (l.map f)[i]? = some (f x) := by simp [h]

theorem getE {α : Type} {l : List α} {i : Nat} (h : i < l.length) : ∃ x, l[i]? = some x := ⟨_, List.getElem?_eq_getElem h⟩

theorem all_take_succ {α : Type} {p : α → Bool} {l : List α} {i : Nat} {x : α} (h : l[i]? = some x) : (l.take (i + 1)).all p = ((l.take i).all p && p x) := by
  obtain ⟨hi, rfl⟩ := List.getElem?_eq_some_iff.1 h
  rw [List.take_succ_eq_append_getElem hi, List.all_append]; simp

theorem eqv_wrap {x : Int} {K : Int → Prop} (h1 : -9223372036854775808 ≤ x) (h2 : x ≤ 9223372036854775807) (h : K x) : eqv (IntKind.i64.wrap x) K := ⟨x, wrap64 h1 h2, h⟩
theorem eqv_len_map {α β : Type} {f : α → β} {l : List α} {K : Nat → Prop} (h : K l.length) : eqv (l.map f).length K := ⟨_, by simp, h⟩
theorem eqv_zero {k : Nat} {K : Nat → Prop} (h : K k) : eqv (0 + k) K := ⟨_, by simp, h⟩
theorem eqv_rfl {α : Type} {a : α} {K : α → Prop} (h : K a) : eqv a K := ⟨_, rfl, h⟩
theorem eqv_to {α : Type} {a : α} {K : α → Prop} (b : α) (e : a = b) (h : K b) : eqv a K := ⟨b, e, h⟩

theorem idx_sl {n : Int} {xs : List (List PV)} {r : List PV} {k : Nat} {K : List PV → Prop} (h1 : xs[k]? = some r) (h2 : n = ↑k) (h : K r) : ∃ (k : Nat) (r : List PV), n = ↑k ∧ xs[k]? = some r ∧ K r := ⟨k, r, h2, h1, h⟩

theorem idx_ms {n : Int} {len off : Nat} {K : Nat → Prop} (k : Nat) (h1 : n = ↑k) (h2 : k < len) (h : eqv (off + k) K) : ∃ k : Nat, n = ↑k ∧ k < len ∧ eqv (off + k) K := ⟨k, h1, h2, h⟩

/-- An array of one-cell rows. -/
theorem set_map {α : Type} {f : α → List PV} {s : List α} {i : Nat} {y : α} {p q : PV} {r : List PV} (hp : f y = [p]) (hr : r = [q]) : (s.map f).set i (splice 0 [p] r) = (s.set i y).map f := by
  subst hr; rw [List.map_set, hp]; rfl

theorem idx_in {l : List Int} {v : Int} (h0 : 0 ≤ v) (h1 : v < l.length) : ∃ (k : Nat) (x : Int), v = ↑k ∧ l[k]? = some x ∧ k < l.length := by
  obtain ⟨k, rfl⟩ := Int.eq_ofNat_of_zero_le h0
  have hk : k < l.length := by omega
  exact ⟨k, l[k], rfl, List.getElem?_eq_getElem hk, hk⟩

/-- A row behind the rows of a list. -/
theorem app_row {α : Type} {f : α → List PV} {l : List α} {y : α} {row : List PV} (h : f y = row) : Rows.p (List.drop 0 (l.map f) ++ List.take 1 (List.drop 0 [row])) = .p ((l ++ [y]).map f) := by
  subst h; simp

theorem app_row' {α : Type} {f : α → List PV} {l : List α} {y : α} {row : List PV} {o : Nat} {pre : List (List PV)} (ho : o = pre.length) (h : f y = row) : Rows.p (List.drop o (pre ++ l.map f) ++ List.take 1 (List.drop 0 [row])) = .p ((l ++ [y]).map f) := by
  subst h; subst ho; simp

theorem app_first {α : Type} {f : α → List PV} {y : α} {row : List PV} (h : f y = row) : Rows.p (List.take 1 (List.drop 0 [row])) = .p ([y].map f) := by
  subst h; simp

theorem app_len {α : Type} {f : α → List PV} {l : List α} : rowsLen (.p (l.map f)) = l.length := by simp [rowsLen]

/-- The states behind a statement. -/
theorem cut_block {nh id id2 : Nat} {ops : Array Oper} {b : Code} {Q Q' : Exit → Slots → Heap → Prop} {Γ : Slots} {H : Heap} (R : ASt → Prop) (k : ∀ S, R S → xCode P T n nh (.block id2 b) Q S.sl S.hp)
    (h : (∀ Γ H, (∃ S, R S ∧ Ref nh Γ H S) → xCode P T n nh (.block id2 b) Q Γ H) → xCode P T n nh (.region id ops true) (thenQ (xCode P T n nh (.block id2 b) Q) Q') Γ H) : xCode P T n nh (.region id ops true) (thenQ (xCode P T n nh (.block id2 b) Q) Q') Γ H :=
  h fun _ _ ⟨S, hS, hr⟩ => ghost_block (Ghost.ref hr) (k S hS)

theorem cut_seq {nh id : Nat} {ops : Array Oper} {b c : Code} {Q Q' : Exit → Slots → Heap → Prop} {Γ : Slots} {H : Heap} (R : ASt → Prop) (k : ∀ S, R S → xCode P T n nh (.seq b c) Q S.sl S.hp)
    (h : (∀ Γ H, (∃ S, R S ∧ Ref nh Γ H S) → xCode P T n nh (.seq b c) Q Γ H) → xCode P T n nh (.region id ops true) (thenQ (xCode P T n nh (.seq b c) Q) Q') Γ H) : xCode P T n nh (.region id ops true) (thenQ (xCode P T n nh (.seq b c) Q) Q') Γ H :=
  h fun _ _ ⟨S, hS, hr⟩ => ghost_seq (Ghost.ref hr) (k S hS)

end
end Go.Cw

/-
  Room for new objects at chosen numbers.
-/
namespace Go.Cw
open Go
set_option linter.unusedVariables false

theorem GhostF.ref {n nh k m : Nat} {Γ : Slots} {H : Heap} {S : ASt} (rn : List Nat) (hd : allD rn = true) (ht : rn.take nh = tabl 0 nh) (hk : kept H H.length rn rn S.hp) (hrs : refSlots H.length rn Γ S.sl)
    (hf : ∀ s, k ≤ s → s < k + m → ∃ i, rn[s]? = some i ∧ H.length ≤ i) : GhostF n nh k m Γ H S.sl S.hp := fun I0 β0 w0 a w hl h => by
  obtain ⟨I, β, hs⟩ := h
  refine ⟨I, renB β rn, hs.h.ren hd hk, hs.defers, hs.size, fun s x hx => ren_back (renB_back hs.h) rfl (hs.slot s _ (refSlots_spec hrs s x hx)), hs.evo.ren hl ht, fun s h1 h2 => ?_⟩
  obtain ⟨i, h3, h4⟩ := hf s h1 h2
  have hlen := hs.h.len
  unfold renB
  rw [List.getElem?_map, h3]
  simp only [Option.map_some]
  simp [List.getElem?_eq_none (show β.length ≤ i by omega)]

theorem allD_of : ∀ {l : List Nat}, l.Nodup → allD l = true
  | [], _ => rfl
  | x :: l, h => by
    obtain ⟨h1, h2⟩ := List.nodup_cons.1 h
    simp only [allD, allD_of h2, Bool.and_true, List.all_eq_true, Bool.not_eq_true']
    intro y hy
    cases e : Nat.beq x y
    · rfl
    · have := Nat.eq_of_beq_eq_true e
      subst this; exact absurd hy h1

/-- Objects of a list of any length, one by one. -/
theorem kept_ids {H : Heap} {d : Nat} {rn : List Nat} : ∀ (ids : List Nat) (T : Heap), ids.length = T.length → (∀ (j i : Nat) (o : AObj), ids[j]? = some i → T[j]? = some (some o) → H[i]? = some (some (renO d rn o))) → kept H d rn ids T
  | [], [], _, _ => trivial
  | [], _ :: _, h, _ => by simp at h
  | _ :: _, [], h, _ => by simp at h
  | i :: ids, none :: T, h, hk => by
    show kept H d rn ids T
    exact kept_ids ids T (by simpa using h) fun j i o h1 h2 => hk (j + 1) i o (by simpa using h1) (by simpa using h2)
  | i :: ids, some o :: T, h, hk => by
    show H[i]? = some (some (renO d rn o)) ∧ kept H d rn ids T
    exact ⟨hk 0 i o rfl rfl, kept_ids ids T (by simpa using h) fun j i o h1 h2 => hk (j + 1) i o (by simpa using h1) (by simpa using h2)⟩

/-- The same ahead of more. -/
theorem kept_cons {H : Heap} {d i : Nat} {rn l : List Nat} {o : AObj} {T : Heap} (h : H[i]? = some (some (renO d rn o))) (hk : kept H d rn l T) : kept H d rn (i :: l) (some o :: T) := ⟨h, hk⟩
theorem kept_none {H : Heap} {d i : Nat} {rn l : List Nat} {T : Heap} (hk : kept H d rn l T) : kept H d rn (i :: l) (none :: T) := hk

theorem forceH_in {H : Heap} {K : Heap → Prop} (h : K H) : forceH H K := by rw [forceH_eq]; exact h

/-- The same cells, said in another way. -/
theorem Ghost.rows {n nh : Nat} {Γ : Slots} {H : Heap} {i : Nat} {o : AObj} {rows' : Rows} (hi : H[i]? = some (some o)) (hw : rowsWide o.rows o.z → rowsWide rows' o.z) (hc : ∀ (i j : Nat) x, rowCell rows' i j = some x → rowCell o.rows i j = some x) :
    Ghost n nh Γ H Γ (H.set i (some { o with rows := rows' })) := fun I0 β0 w0 a w _ ⟨I, β, hs⟩ => by
  have hH := hs.h
  have hlt : i < H.length := (List.getElem?_eq_some_iff.1 hi).1
  have back : ∀ (k : Nat) o2, (H.set i (some { o with rows := rows' }))[k]? = some (some o2) → ∃ o1, H[k]? = some (some o1) := fun k o2 h => by
    rw [List.getElem?_set] at h
    split at h
    · rename_i e; subst e; exact ⟨o, hi⟩
    · exact ⟨o2, h⟩
  refine ⟨I, β, ⟨by rw [List.length_set]; exact hH.len, fun k o2 h => ?_, fun k j oi oj b b' h1 h2 h3 h4 h5 => ?_, hH.imm, hH.lt⟩, hs.defers, hs.size, hs.slot, hs.evo, hs.free⟩
  · rw [List.getElem?_set] at h
    split at h
    · rename_i e
      subst e
      injection h with h; injection h with h
      subst h
      obtain ⟨b, hb, h1, h2, c, h3, h4⟩ := hH.obj i o hi
      exact ⟨b, hb, hw h1, h2, c, h3, fun r j x hx => h4 r j x (hc r j x hx)⟩
    · exact hH.obj k o2 h
  · obtain ⟨_, k1⟩ := back k oi h1
    obtain ⟨_, k2⟩ := back j oj h2
    exact hH.inj k j _ _ b b' k1 k2 h3 h4 h5

theorem Ghost.pm {n nh : Nat} {Γ : Slots} {H : Heap} {i ty z : Nat} {fz : Bool} {xs : List (List PV)} (hi : H[i]? = some (some ⟨ty, z, fz, .p xs⟩)) : Ghost n nh Γ H Γ (H.set i (some ⟨ty, z, fz, .m (xs.map pvs)⟩)) := by
  refine Ghost.rows (o := ⟨ty, z, fz, .p xs⟩) hi (fun h k r hr => ?_) fun k j x hx => ?_
  · simp only [List.getElem?_map, Option.map_eq_some_iff] at hr
    obtain ⟨r0, h0, rfl⟩ := hr
    rw [pvs_map, List.length_map]; exact h k r0 h0
  · simp only [rowCell, List.getElem?_map] at hx ⊢
    cases h : xs[k]? with
    | none => rw [h] at hx; simp at hx
    | some r => rw [h] at hx; simpa [pvs_map] using hx
end Go.Cw

/-
  Room for new objects at numbers that nothing leads to; a box's cell, and what it leads to, said as a pure value.
-/
namespace Go.Cw
open Go
set_option linter.unusedVariables false

mutual
/-- No number from k to k + m - 1 stands in it. -/
def far (k m : Nat) : AV → Bool
  | .pv _ => true
  | .agg cs => farL k m cs
  | .ms id _ _ _ => Nat.blt id k || Nat.ble (k + m) id
  | .ptr id _ _ _ => Nat.blt id k || Nat.ble (k + m) id
  | .fn _ caps => farL k m caps
  | .tup vs => farL k m vs
  | .dead => true
def farL (k m : Nat) : List AV → Bool
  | [] => true
  | x :: l => far k m x && farL k m l
end

def farS (k m : Nat) : Slots → Bool
  | [] => true
  | (_, x) :: l => far k m x && farS k m l

def farR (k m : Nat) : Rows → Prop
  | .box cs => farL k m cs = true
  | .p _ => True
  | .m xs => ∀ r ∈ xs, farL k m r = true

/-- The objects of a heap; the first has the number i. -/
def farH (k m : Nat) : Nat → Heap → Prop
  | _, [] => True
  | i, none :: l => farH k m (i + 1) l
  | i, some o :: l => (i < k ∨ k + m ≤ i) ∧ farR k m o.rows ∧ farH k m (i + 1) l

theorem farL_get {k m : Nat} : ∀ {l : List AV}, farL k m l = true → ∀ (j : Nat) c, l[j]? = some c → far k m c = true
  | [], _, j, c, h => by simp at h
  | x :: l, h, 0, c, hc => by simp only [farL, Bool.and_eq_true] at h; simp at hc; subst hc; exact h.1
  | x :: l, h, j + 1, c, hc => by simp only [farL, Bool.and_eq_true] at h; exact farL_get h.2 j c (by simpa using hc)

theorem farS_get {k m : Nat} : ∀ {Γ : Slots}, farS k m Γ = true → ∀ s x, get Γ s = some x → far k m x = true
  | [], _, s, x, h => by simp [get] at h
  | (t, y) :: l, h, s, x, hx => by
    simp only [farS, Bool.and_eq_true] at h
    rw [get_cons] at hx
    split at hx
    · injection hx with hx; subst hx; exact h.1
    · exact farS_get h.2 s x hx

theorem farH_get {k m : Nat} : ∀ {H : Heap} {i0 : Nat}, farH k m i0 H → ∀ (i : Nat) o, H[i]? = some (some o) → (i0 + i < k ∨ k + m ≤ i0 + i) ∧ farR k m o.rows
  | [], _, _, i, o, h => by simp at h
  | none :: l, i0, hh, 0, o, h => by simp at h
  | some o2 :: l, i0, hh, 0, o, h => by simp at h; subst h; exact ⟨hh.1, hh.2.1⟩
  | none :: l, i0, hh, i + 1, o, h => by
    have := farH_get (H := l) (i0 := i0 + 1) hh i o (by simpa using h)
    rwa [Nat.add_right_comm, Nat.add_assoc] at this
  | some o2 :: l, i0, hh, i + 1, o, h => by
    have := farH_get (H := l) (i0 := i0 + 1) hh.2.2 i o (by simpa using h)
    rwa [Nat.add_right_comm, Nat.add_assoc] at this

theorem farH_tail {k m i : Nat} {x : Option AObj} {l : Heap} (h : farH k m i (x :: l)) : farH k m (i + 1) l := by
  cases x with
  | none => exact h
  | some o => exact h.2.2

def cutB (k m : Nat) (β : Beta) : Beta := β.mapIdx fun i x => if k ≤ i ∧ i < k + m then none else x

theorem cutB_get {k m : Nat} {β : Beta} {i : Nat} {b : Nat × Nat} : (cutB k m β)[i]? = some (some b) ↔ (i < k ∨ k + m ≤ i) ∧ β[i]? = some (some b) := by
  unfold cutB
  rw [List.getElem?_mapIdx]
  cases h : β[i]? with
  | none => simp
  | some x =>
    simp only [Option.map_some, Option.some.injEq]
    split
    · rename_i hk; constructor
      · intro e; cases e
      · rintro ⟨e, _⟩; omega
    · rename_i hk; constructor
      · intro e; exact ⟨by omega, e⟩
      · rintro ⟨_, e⟩; exact e

theorem ARel.cut {I : Nat → Prop} {β : Beta} {w : World} {k m : Nat} {x : AV} {v : Value} (h : ARel I β w x v) (hf : far k m x = true) : ARel I (cutB k m β) w x v := by
  have side : ∀ {id : Nat}, (Nat.blt id k || Nat.ble (k + m) id) = true → id < k ∨ k + m ≤ id := fun h => by
    simp only [Bool.or_eq_true, Nat.blt_eq, Nat.ble_eq] at h; exact h
  induction h with
  | pv h => exact .pv h
  | agg hl h ih => exact .agg hl fun j c hj => ih j c hj (farL_get hf j c hj)
  | ms h1 h2 h3 h4 h5 => exact .ms (cutB_get.2 ⟨side hf, h1⟩) h2 h3 h4 h5
  | ptr h1 => exact .ptr (cutB_get.2 ⟨side hf, h1⟩)
  | fn hl h ih => exact .fn hl fun j c hj => ih j c hj (farL_get hf j c hj)
  | tup hl h ih => exact .tup hl fun j c hj => ih j c hj (farL_get hf j c hj)
  | dead v => exact .dead v

theorem rowCell_far {k m : Nat} {rows : Rows} (h : farR k m rows) (i j : Nat) (x : AV) (hx : rowCell rows i j = some x) : far k m x = true := by
  cases rows with
  | box cs =>
    simp only [rowCell] at hx
    split at hx
    · exact farL_get h j x hx
    · cases hx
  | p xs =>
    simp only [rowCell, Option.map_eq_some_iff] at hx
    obtain ⟨p, _, rfl⟩ := hx
    rfl
  | m xs =>
    simp only [rowCell] at hx
    cases hr : xs[i]? with
    | none => rw [hr] at hx; cases hx
    | some r => rw [hr] at hx; exact farL_get (h r (List.mem_of_getElem? hr)) j x hx

theorem GhostF.room {n nh k m : Nat} {Γ Γ' : Slots} {H : Heap} (hnh : nh ≤ k) (hkm : k + m ≤ H.length) (hs : ∀ s x, get Γ' s = some x → get Γ s = some x) (hg : farS k m Γ' = true) (hh : farH k m 0 H) : GhostF n nh k m Γ H Γ' H := fun I0 β0 w0 a w hl ⟨I, β, h⟩ => by
  have hH := h.h
  refine ⟨I, cutB k m β, ⟨by simp [cutB, hH.len], fun i o ho => ?_, fun i j oi oj b b' h1 h2 h3 h4 h5 => hH.inj i j oi oj b b' h1 h2 (cutB_get.1 h3).2 (cutB_get.1 h4).2 h5, hH.imm, fun i b hb => hH.lt i b (cutB_get.1 hb).2⟩,
    h.defers, h.size, fun s x hx => (h.slot s x (hs s x hx)).cut (farS_get hg s x hx),
    ⟨h.evo.os, h.evo.tape, h.evo.output, h.evo.size, fun i b hb => cutB_get.2 ⟨.inl ?_, h.evo.pre i b hb⟩, fun i b hb => h.evo.fresh i b (cutB_get.1 hb).2, h.evo.keep, h.evo.keepI, h.evo.old, h.evo.shape⟩, fun s h1 h2 => ?_⟩
  · obtain ⟨b, hb, h1, h2, c, h3, h4⟩ := hH.obj i o ho
    obtain ⟨f1, f2⟩ := farH_get hh i o ho
    rw [Nat.zero_add] at f1
    refine ⟨b, cutB_get.2 ⟨f1, hb⟩, h1, h2, c, h3, fun r j x hx => ?_⟩
    obtain ⟨v, g1, g2, g3⟩ := h4 r j x hx
    exact ⟨v, g1, g2, g3.cut (rowCell_far f2 r j x hx)⟩
  · have := (List.getElem?_eq_some_iff.1 hb).1; omega
  · unfold cutB
    rw [List.getElem?_mapIdx]
    have : s < β.length := by rw [hH.len]; omega
    rw [List.getElem?_eq_getElem this]
    simp only [Option.map_some]
    rw [if_pos ⟨h1, h2⟩]

/-- A box's cell, and what it leads to, becomes a pure value: nobody writes any more what it leads to. -/
theorem Ghost.shut {n nh : Nat} {Γ : Slots} {H : Heap} {i c ty z : Nat} {fz : Bool} {cs : List AV} {x y y' : AV} (hi : H[i]? = some (some ⟨ty, z, fz, .box cs⟩)) (hx : cs[c]? = some x) (hc : conv H x = some y) (hok : ok1 H x) (hn : i ∉ ids1 H x) (hle : ALe y y') :
    Ghost n nh Γ H Γ ((app H (frz H (ids1 H x))).set i (some ⟨ty, z, fz, .box (cs.set c y')⟩)) := fun I0 β0 w0 a w _ ⟨I, β, hs⟩ => by
  let ids := ids1 H x
  let J : Nat → Prop := fun b => I b ∨ ∃ id ∈ ids, ∃ c, β[id]? = some (some c) ∧ c.1 = b
  have hH := hs.h
  have hIJ : ∀ b, I b → J b := fun b h => .inl h
  have hJlt : ∀ b, J b → b < w.heap.size := fun b h => by
    rcases h with h | ⟨id, _, c, h, rfl⟩
    · exact hH.imm b h
    · exact hH.lt id c h
  have hkI : ∀ b, I b → w.heap[b]? = w.heap[b]? ∧ J b := fun b hb => ⟨rfl, hIJ b hb⟩
  have hget := frz_get ids H H (fun i ⟨o, ho⟩ => ⟨o, ho, .inl ho⟩)
  have hmono : ∀ {x : AV} {v : Value}, ARel I β w x v → ARel J β w x v := fun h => h.mono hkI (fun _ _ h => h) (fun _ _ _ h => h)
  have hfz : ∀ (k : Nat) o b, H[k]? = some (some o) → β[k]? = some (some b) → k ∉ ids → (o.fz = true ↔ I b.1) → (o.fz = true ↔ J b.1) := fun k o b ho hb hk h2 => by
    refine ⟨fun e => hIJ b.1 (h2.1 e), fun hI => h2.2 ?_⟩
    rcases hI with h | ⟨id, hid, c', h, hc'⟩
    · exact h
    · exfalso
      obtain ⟨oid, hoid⟩ := ids1_live hid
      exact hk (hH.inj id k oid o c' b hoid ho h hb hc' ▸ hid)
  have live : ∀ (k : Nat) (o2 : AObj), ((app H (frz H ids)).set i (some ⟨ty, z, fz, .box (cs.set c y')⟩))[k]? = some (some o2) → ∃ o, H[k]? = some (some o) := fun k o2 h => by
    rw [List.getElem?_set] at h
    split at h
    · rename_i e; subst e; exact ⟨_, hi⟩
    · rw [hget k] at h
      cases hHk : H[k]? with
      | none => simp [hHk] at h
      | some oo => cases oo with
        | none => simp [hHk] at h
        | some o => exact ⟨o, rfl⟩
  refine ⟨J, β, ⟨by rw [List.length_set, app_length]; exact hH.len, fun k o2 ho2 => ?_, fun k j oi oj b b' h1 h2 hbi hbj hbb => ?_, hJlt, hH.lt⟩, hs.defers, hs.size, fun t z hz => hmono (hs.slot _ _ hz),
    ⟨hs.evo.os, hs.evo.tape, hs.evo.output, hs.evo.size, hs.evo.pre, hs.evo.fresh, hs.evo.keep, fun b hb => ⟨(hs.evo.keepI b hb).1, hIJ b (hs.evo.keepI b hb).2⟩, fun b hb hJ => ?_, hs.evo.shape⟩, hs.free⟩
  · rw [List.getElem?_set] at ho2
    by_cases e : i = k
    · subst e
      rw [if_pos rfl] at ho2
      split at ho2
      · injection ho2 with ho2; injection ho2 with ho2; subst ho2
        obtain ⟨b, hb, h1, h2, cc, h3, h4⟩ := hH.obj i _ hi
        refine ⟨b, hb, by simpa [rowsWide] using h1, hfz i ⟨ty, z, fz, .box cs⟩ b hi hb hn h2, cc, h3, fun r j u hu => ?_⟩
        simp only [rowCell] at hu
        split at hu
        · rename_i hr0
          subst hr0
          rw [List.getElem?_set] at hu
          split at hu
          · rename_i e2
            subst e2
            split at hu
            · injection hu with hu; subst hu
              obtain ⟨v, g1, g2, g3⟩ := h4 0 c x (by simp only [rowCell]; exact hx)
              exact ⟨v, g1, g2, hle _ _ _ _ (conv_sound hH hIJ hc hok g3 (fun id hid b hb => .inr ⟨id, hid, b, hb, rfl⟩))⟩
            · cases hu
          · obtain ⟨v, g1, g2, g3⟩ := h4 0 j u (by simp only [rowCell]; exact hu)
            exact ⟨v, g1, g2, hmono g3⟩
        · cases hu
      · cases ho2
    · rw [if_neg e, hget k] at ho2
      cases hHk : H[k]? with
      | none => simp [hHk] at ho2
      | some oo =>
        cases oo with
        | none => simp [hHk] at ho2
        | some o =>
          obtain ⟨b, hb, h1, h2, cc, h3, h4⟩ := hH.obj k o hHk
          refine ⟨b, hb, ?_⟩
          simp only [hHk] at ho2
          have hcells : ∀ i j x, rowCell o.rows i j = some x → ∃ v, cc[(i + b.2) * o.z + j]? = some v ∧ v.oneCell' = true ∧ ARel J β w x v := fun i j x hx => by
            obtain ⟨v, hv, h5, h6⟩ := h4 i j x hx
            exact ⟨v, hv, h5, hmono h6⟩
          by_cases hk : k ∈ ids
          · rw [if_pos hk] at ho2
            injection ho2 with ho2; injection ho2 with ho2; subst ho2
            exact ⟨h1, ⟨fun _ => .inr ⟨k, hk, b, hb, rfl⟩, fun _ => rfl⟩, cc, h3, hcells⟩
          · rw [if_neg hk] at ho2
            injection ho2 with ho2; injection ho2 with ho2; subst ho2
            exact ⟨h1, hfz k o b hHk hb hk h2, cc, h3, hcells⟩
  · obtain ⟨o1, k1⟩ := live k oi h1
    obtain ⟨o2, k2⟩ := live j oj h2
    exact hH.inj k j o1 o2 b b' k1 k2 hbi hbj hbb
  · rcases hJ with h | ⟨id, _, c, h, hc⟩
    · exact hs.evo.old b hb h
    · rcases hs.evo.fresh id c h with h2 | ⟨j, c', h2, h3⟩
      · omega
      · exact .inr ⟨j, c', h2, h3.trans hc⟩

/-- A call that hands back objects hands back what they hold. -/
theorem ACall.frozen {P : Program} {f : FuncId} {args : List AV} {Post : AV → Heap → Prop} {Post' : AV → Prop} (h : ACall P f args [] Post) (hp : ∀ r H', Post r H' → ∃ r0, conv H' r = some r0 ∧ ok1 H' r ∧ ∃ r1, ALe r0 r1 ∧ Post' r1) : PCall P f args Post' :=
  ⟨h.1, fun I β w vs h1 h2 h3 => (h.2 I β w vs h1 h2 h3).mono fun e w' ⟨r, H', I', β', v, e1, e2, e3, e4, e5⟩ => by
    obtain ⟨r0, g1, g2, r1, g4, g3⟩ := hp r H' e2
    have hb : β = [] := by have := h1.len; simpa using this
    subst hb
    refine ⟨r1, [], fun b => I' b ∨ ∃ id ∈ ids1 H' r, ∃ c, β'[id]? = some (some c) ∧ c.1 = b, [], v, e1, ⟨rfl, g3⟩, ⟨rfl, fun i o ho => by simp at ho, fun i j oi oj b b' hi => by simp at hi, fun b hb => ?_, fun i b hb => by simp at hb⟩,
      g4 _ _ _ _ (conv_sound e3 (fun b hb => .inl hb) g1 g2 e4 fun id hid b hb => .inr ⟨id, hid, b, hb, rfl⟩),
      ⟨e5.os, e5.tape, e5.output, e5.size, fun i b hb => by simp at hb, fun i b hb => by simp at hb, e5.keep, fun b hb => ⟨(e5.keepI b hb).1, .inl (e5.keepI b hb).2⟩, fun b hb hJ => ?_, e5.shape⟩⟩
    · rcases hb with hb | ⟨id, _, c, hc, rfl⟩
      · exact e3.imm b hb
      · exact e3.lt id c hc
    · rcases hJ with hJ | ⟨id, _, c, hc, rfl⟩
      · exact e5.old b hb hJ
      · rcases e5.fresh id c hc with k | ⟨j, c', k, _⟩
        · exact absurd hb (by omega)
        · simp at k⟩
end Go.Cw
