/-
  Cw, part XE: what is computed is so.
-/
import Derived.Test.YtlhakdmenohdnaaCwXD
namespace Go.Cw
set_option linter.unusedVariables false
set_option linter.unusedSimpArgs false

theorem findI_spec : ∀ {l : List Nat} {x k m : Nat}, findI l x k = some m → k ≤ m ∧ l[m - k]? = some x
  | [], x, k, m, h => by simp [findI] at h
  | y :: l, x, k, m, h => by
    simp only [findI] at h
    cases hb : Nat.beq y x
    · rw [hb] at h
      obtain ⟨h1, h2⟩ := findI_spec (l := l) (by simpa using h)
      refine ⟨by omega, ?_⟩
      rw [show m - k = (m - (k + 1)) + 1 from by omega, List.getElem?_cons_succ]; exact h2
    · rw [hb] at h
      simp only [cond_true, Option.some.injEq] at h
      subst h
      have := Nat.eq_of_beq_eq_true hb
      simp [this]

theorem findI_getD {l : List Nat} {x m d : Nat} (h : findI l x 0 = some m) : l.getD m d = x := by
  have := (findI_spec h).2
  simp only [Nat.sub_zero] at this
  simp [List.getD, this]

mutual
theorem unC_ren {d : Nat} {rn : List Nat} : ∀ (x y : AV), unC rn x = some y → renC d rn y = x
  | .pv p, y, h => by simp only [unC, Option.some.injEq] at h; subst h; rfl
  | .agg cs, y, h => by
    simp only [unC] at h
    split at h
    · rename_i ds hds; injection h with h; subst h; simp only [renC]; rw [unL_ren cs ds hds]
    · cases h
  | .ms id z off len, y, h => by
    simp only [unC] at h
    split at h
    · rename_i k hk; injection h with h; subst h; simp only [renC]; rw [findI_getD hk]
    · cases h
  | .ptr id z row col, y, h => by
    simp only [unC] at h
    split at h
    · rename_i k hk; injection h with h; subst h; simp only [renC]; rw [findI_getD hk]
    · cases h
  | .fn f caps, y, h => by
    simp only [unC] at h
    split at h
    · rename_i ds hds; injection h with h; subst h; simp only [renC]; rw [unL_ren caps ds hds]
    · cases h
  | .tup vs, y, h => by
    simp only [unC] at h
    split at h
    · rename_i ds hds; injection h with h; subst h; simp only [renC]; rw [unL_ren vs ds hds]
    · cases h
  | .dead, y, h => by simp only [unC, Option.some.injEq] at h; subst h; rfl
theorem unL_ren {d : Nat} {rn : List Nat} : ∀ (x y : List AV), unL rn x = some y → renL d rn y = x
  | [], y, h => by simp only [unL, Option.some.injEq] at h; subst h; rfl
  | x :: l, y, h => by
    simp only [unL] at h
    split at h
    · rename_i a as ha has; injection h with h; subst h; simp only [renL]; rw [unC_ren x a ha, unL_ren l as has]
    · cases h
end

theorem unLL_ren {d : Nat} {rn : List Nat} : ∀ {x y : List (List AV)}, unLL rn x = some y → y.map (renL d rn) = x
  | [], y, h => by simp only [unLL, Option.some.injEq] at h; subst h; rfl
  | x :: l, y, h => by
    simp only [unLL] at h
    split at h
    · rename_i a as ha has; injection h with h; subst h; simp only [List.map_cons]; rw [unL_ren x a ha, unLL_ren has]
    · cases h

theorem unO_ren {d : Nat} {rn : List Nat} {o o' : AObj} (h : unO rn o = some o') : renO d rn o' = o := by
  obtain ⟨ty, z, fz, rows⟩ := o
  unfold unO at h
  split at h
  · rename_i r hr
    injection h with h; subst h
    simp only [renO, AObj.mk.injEq, true_and]
    cases rows with
    | box cs =>
      simp only [unRows] at hr
      split at hr
      · rename_i ds hds; injection hr with hr; subst hr; simp only [renRows]; rw [unL_ren cs ds hds]
      · cases hr
    | p xs => simp only [unRows, Option.some.injEq] at hr; subst hr; rfl
    | m xs =>
      simp only [unRows] at hr
      split at hr
      · rename_i ds hds; injection hr with hr; subst hr; simp only [renRows]; rw [unLL_ren hds]
      · cases hr
  · cases h

theorem unHeap_passed {H : Heap} {d : Nat} {rn : List Nat} : ∀ {ids : List Nat} {Hc : Heap}, unHeap H rn ids = some Hc → passed H d rn ids Hc
  | [], Hc, h => by simp only [unHeap, Option.some.injEq] at h; subst h; trivial
  | i :: l, Hc, h => by
    simp only [unHeap] at h
    split at h
    · rename_i o ho
      split at h
      · rename_i o' Hc' h1 h2
        injection h with h; subst h
        exact ⟨by rw [unO_ren h1]; exact ho, unHeap_passed h2⟩
      · cases h
    · cases h

theorem unHeapN_kept {H : Heap} {d : Nat} {rn : List Nat} : ∀ {ids : List Nat} {Hc : Heap}, unHeapN H rn ids = some Hc → kept H d rn ids Hc
  | [], Hc, h => by simp only [unHeapN, Option.some.injEq] at h; subst h; trivial
  | i :: l, Hc, h => by
    simp only [unHeapN] at h
    split at h
    · rename_i o ho
      split at h
      · rename_i o' Hc' h1 h2
        injection h with h; subst h
        exact ⟨by rw [unO_ren h1]; exact ho, unHeapN_kept h2⟩
      · cases h
    · split at h
      · rename_i Hc' h2
        injection h with h; subst h
        show kept H d rn l Hc'
        exact unHeapN_kept h2
      · cases h

theorem close_pre {H : Heap} : ∀ (n : Nat) (todo acc : List Nat), ∃ l, close H n todo acc = acc ++ l
  | 0, _, acc => ⟨[], by simp [close]⟩
  | n + 1, [], acc => ⟨[], by simp [close]⟩
  | n + 1, i :: l, acc => by
    simp only [close]
    cases memN acc i
    · simp only [cond_false]
      split
      · obtain ⟨l', h⟩ := close_pre (H := H) n (idsR _ l) (acc ++ [i])
        exact ⟨[i] ++ l', by rw [h]; simp⟩
      · exact close_pre n l acc
    · simp only [cond_true]; exact close_pre n l acc

theorem exPut_get : ∀ (Γ : Slots) (t : Nat) (v : AV), get (exPut Γ t v) = gput (get Γ) (some t) v
  | [], t, v => by funext s; simp only [exPut, get_cons, gput]
  | (k, x) :: l, t, v => by
    funext s
    simp only [exPut]
    cases hb : Nat.beq k t
    · simp only [cond_false, get_cons, gput]
      rw [exPut_get l t v]
      simp only [gput]
      have hne : k ≠ t := fun e => by subst e; simp at hb
      by_cases h1 : k = s
      · subst h1; rw [if_pos rfl, if_neg (fun e => hne e.symm), if_pos rfl]
      · rw [if_neg h1]
        by_cases h2 : t = s
        · rw [if_pos h2, if_pos h2]
        · rw [if_neg h2, if_neg h2, if_neg h1]
    · have := Nat.eq_of_beq_eq_true hb; subst this
      simp only [cond_true, get_cons, gput]
      by_cases h1 : k = s
      · rw [if_pos h1, if_pos h1]
      · rw [if_neg h1, if_neg h1, if_neg h1]

theorem exPutO_get (Γ : Slots) (d : Option Tmp) (v : AV) : get (exPutO Γ d v) = gput (get Γ) d v := by
  cases d with
  | none => rfl
  | some t => exact exPut_get Γ t v

def CallerOk (P : Program) (call : Caller) : Prop := ∀ f as Hc r H', call f as Hc = some (r, H') → ACall P f as Hc fun x Hx => x = r ∧ Hx = H'

section
variable {P : Program} {T : Tab} {n nh : Nat} {call : Caller}

theorem exFn_ok (hC : CallerOk P call) {f : FuncId} {args : List AV} {H : Heap} {r : AV} {H' : Heap} {u : Upd} {rd : List Nat} (h : exFn call f args H = some (r, H', u, rd)) {K : AV → Heap → Prop} (hk : K r H') : vcFun P f args H K := by
  simp only [exFn] at h
  split at h
  · rename_i as Hc h1 h2 h3
    split at h
    · rename_i r0 Hc' h4
      split at h
      · rename_i h5
        injection h with h; injection h with ha hb; injection hb with hb hc
        subst ha; subst hb
        refine ⟨_, ALeL.refl, .inr ⟨_, Hc, as, _, h3, unHeap_passed h2, (unL_ren _ _ h1).symm, hC _ _ _ _ _ h4, fun r Hx hp => ?_⟩⟩
        obtain ⟨rfl, rfl⟩ := hp
        exact ⟨Nat.le_of_ble_eq_true h5, hk⟩
      · cases h
    · cases h
  · cases h

theorem guard_intro {ops : List Oper} {Γ Γ0 : Slots} {dc : Known} {g : Option (Nat × Bool)} {b : Bool} {run skip : Known → Prop} (h : exGuard ops Γ g = some b) (hg : get Γ0 = get Γ) (hk : KnOk dc (get Γ0))
    (hr : ∀ dc', KnOk dc' (get Γ0) → if b then run dc' else skip dc') : vcGuard ops Γ0 dc g run skip := by
  unfold exGuard at h
  unfold vcGuard
  split at h
  · injection h with h; subst h
    exact hr dc hk
  · rename_i j want
    split at h
    · rename_i o ho
      split at h
      · rename_i d hd
        simp only [ho, hd]
        split
        · rename_i b' hb'
          have h1 := hk _ _ hb'
          rw [hg] at h1
          rw [h1] at h
          simp only [vbool, Option.some.injEq] at h
          subst h
          have := hr dc hk
          cases b' <;> cases want <;> simpa using this
        · split at h
          · rename_i b' hb'
            injection h with h; subst h
            rw [hg, hb']
            have hin : KnOk ((d, b') :: dc) (get Γ0) := fun s b2 hs' => by
              simp only [kn] at hs'
              cases hbeq : Nat.beq d s
              · rw [hbeq] at hs'; exact hk s b2 (by simpa using hs')
              · rw [hbeq] at hs'
                have := Nat.eq_of_beq_eq_true hbeq; subst this
                simp only [cond_true, Option.some.injEq] at hs'; subst hs'
                rw [hg]; exact hb'
            have := hr _ hin
            cases b' <;> cases want <;> simp at this ⊢ <;> exact this
          · rename_i hb'
            injection h with h; subst h
            rw [hg, hb']
            exact hr dc hk
          · cases h
      · cases h
    · cases h

theorem knOut_intro : ∀ {dc : Known} {s : Nat} {K : Known → Prop}, (∀ dc', (∀ t b, kn dc' t = some b → kn dc t = some b ∧ t ≠ s) → K dc') → knOut dc s K
  | [], s, K, h => h [] fun t b ht => by simp [kn] at ht
  | (k, b0) :: l, s, K, h => by
    simp only [knOut]
    split
    · rename_i hk
      have hk := Nat.eq_of_beq_eq_true hk; subst hk
      refine knOut_intro fun dc' h2 => h dc' fun t b ht => ?_
      obtain ⟨h3, h4⟩ := h2 t b ht
      refine ⟨?_, h4⟩
      simp only [kn]
      have : Nat.beq k t = false := by
        cases hb : Nat.beq k t
        · rfl
        · exact absurd (Nat.eq_of_beq_eq_true hb).symm h4
      rw [this]; exact h3
    · rename_i hk
      refine knOut_intro fun dc' h2 => h _ fun t b ht => ?_
      simp only [kn] at ht ⊢
      cases hb : Nat.beq k t
      · rw [hb] at ht
        exact ⟨by simpa using (h2 t b (by simpa using ht)).1, (h2 t b (by simpa using ht)).2⟩
      · rw [hb] at ht
        have := Nat.eq_of_beq_eq_true hb; subst this
        refine ⟨by simpa using ht, fun e => ?_⟩
        subst e
        simp at hk

theorem knOf_ex {dc : Known} {g : Nat → Option AV} (hk : KnOk dc g) {x : Operand} {b : Bool} (h : knOf dc x = some b) : evF g x = some (vbool b) := knOf_ok hk h

theorem exOp_simp {site : Nat} {op : Op} {dc : Known} {g : Nat → Option AV} (hk : KnOk dc g) {H : Heap} {o : Out} (h : exOp T site op (evF g) H = some o) : exOp T site (simpOp dc op) (evF g) H = some o ∧ ∀ b, knRes dc op = some b → o.1 = vbool b := by
  cases op with
  | pick c a b =>
    simp only [simpOp, knRes]
    simp only [exOp] at h
    split
    · rename_i hc
      rw [knOf_ex hk hc] at h
      refine ⟨h, fun b0 hb => ?_⟩
      rw [knOf_ex hk (show knOf dc a = some b0 from hb)] at h
      simp only [exPick, vbool, just, Option.some.injEq] at h
      rw [← h]; rfl
    · rename_i hc
      rw [knOf_ex hk hc] at h
      refine ⟨h, fun b0 hb => ?_⟩
      rw [knOf_ex hk (show knOf dc b = some b0 from hb)] at h
      simp only [exPick, vbool, just, Option.some.injEq] at h
      rw [← h]; rfl
    · rename_i hc
      exact ⟨h, fun b0 hb => by cases hb⟩
  | move x =>
    refine ⟨h, fun b hb => ?_⟩
    simp only [exOp] at h
    rw [knOf_ex hk (show knOf dc x = some b from hb)] at h
    simp only [just, Option.some.injEq] at h
    rw [← h]
  | assign x =>
    refine ⟨h, fun b hb => ?_⟩
    simp only [exOp] at h
    rw [knOf_ex hk (show knOf dc x = some b from hb)] at h
    simp only [just, Option.some.injEq] at h
    rw [← h]
  | _ => exact ⟨h, fun b hb => by cases hb⟩

theorem knPut_intro {dc : Known} {o : Oper} {g : Nat → Option AV} (hk : KnOk dc g) {r : AV} (hr : ∀ b, knRes dc o.op = some b → r = vbool b) {K : Known → Prop} (h : ∀ dc', KnOk dc' (gput g o.dst r) → K dc') : knPut dc o K := by
  unfold knPut
  split
  · rename_i d hd
    have old : ∀ {dc' : Known}, (∀ t b, kn dc' t = some b → kn dc t = some b ∧ t ≠ d) → KnOk dc' (gput g o.dst r) := fun h2 s b hs => by
      obtain ⟨h3, h4⟩ := h2 s b hs
      rw [hd]
      have hne : d ≠ s := fun e => h4 e.symm
      simp only [gput, if_neg hne]
      exact hk s b h3
    have new : ∀ {dc' : Known} {b0 : Bool}, (∀ t b, kn dc' t = some b → kn dc t = some b ∧ t ≠ d) → knRes dc o.op = some b0 → KnOk ((d, b0) :: dc') (gput g o.dst r) := fun h2 hb s b hs => by
      simp only [kn] at hs
      cases hbeq : Nat.beq d s
      · rw [hbeq] at hs; exact old h2 s b (by simpa using hs)
      · rw [hbeq] at hs
        have := Nat.eq_of_beq_eq_true hbeq; subst this
        simp only [cond_true, Option.some.injEq] at hs; subst hs
        rw [hd]
        simp only [gput, if_true]
        rw [hr _ hb]
    split
    · rename_i hb; exact knOut_intro fun dc' h2 => h _ (new h2 hb)
    · rename_i hb; exact knOut_intro fun dc' h2 => h _ (new h2 hb)
    · exact knOut_intro fun dc' h2 => h _ (old h2)
  · rename_i hd; exact h dc (by rw [hd]; exact hk)

theorem knSkip_intro {dc : Known} {o : Oper} {g : Nat → Option AV} (hk : KnOk dc g) {r : AV} {K : Known → Prop} (h : ∀ dc', KnOk dc' (gput g o.dst r) → K dc') : knSkip dc o K := by
  unfold knSkip
  split
  · rename_i d hd
    refine knOut_intro fun dc' h2 => h _ fun s b hs => ?_
    obtain ⟨h3, h4⟩ := h2 s b hs
    rw [hd]
    have hne : d ≠ s := fun e => h4 e.symm
    simp only [gput, if_neg hne]
    exact hk s b h3
  · rename_i hd; exact h dc (by rw [hd]; exact hk)

/-- One step. -/
theorem exStep_ok (hC : CallerOk P call) {lo : Nat} {dst : Option Tmp} {op : Op} {Γ Γ' : Slots} {H H' : Heap} (h : exStep T call lo dst op Γ H = some (Γ', H')) {dc : Known} {Γ0 : Slots} (hg : get Γ0 = get Γ) (hk : KnOk dc (get Γ0)) :
    ∃ r, get Γ' = gput (get Γ) dst r ∧ (∀ b, knRes dc op = some b → r = vbool b) ∧ ∀ K : Slots → Heap → Prop, (∀ Γ1, get Γ1 = get Γ' → K Γ1 H') → vcStep P T lo dst (simpOp dc op) Γ0 H K := by
  unfold exStep at h
  split at h
  · rename_i f args ats
    split at h
    · rename_i fv vs hfv hvs
      split at h
      · rename_i fid caps hcall
        split at h
        · rename_i r H2 u rd hex
          injection h with h; injection h with ha hb; subst ha; subst hb
          refine ⟨r, exPutO_get _ _ _, fun b hb => (by cases hb), fun K hK => ?_⟩
          have hev : ev Γ0 = ev Γ := by rw [ev_eq, ev_eq, hg]
          simp only [simpOp, vcStep, hev, hfv, hvs]
          have fin : vcFun P fid (vs ++ caps) H (fun r H' => putK Γ0 dst r fun Γ' => forceH H' fun H2 => K Γ' H2) := exFn_ok hC hex (by
            rw [putK_eq, forceH_eq]
            exact hK _ (by rw [get_put, exPutO_get, hg]))
          unfold callOf at hcall
          split at hcall
          · injection hcall with hcall; injection hcall with h1 h2; subst h1; subst h2; exact fin
          · injection hcall with hcall; injection hcall with h1 h2; subst h1; subst h2; exact fin
          · cases hcall
        · cases h
      · cases h
    · cases h
  · rename_i hno
    split at h
    · rename_i r u rd hex
      injection h with h; injection h with ha hb; subst ha; subst hb
      rw [ev_eq, ← hg] at hex
      obtain ⟨h1, h2⟩ := exOp_simp hk hex
      refine ⟨r, exPutO_get _ _ _, h2, fun K hK => ?_⟩
      have hv : vcOp T lo (simpOp dc op) (ev Γ0) H fun r u _ => putK Γ0 dst r fun Γ' => appK H u fun H2 => K Γ' H2 := by
        rw [ev_eq]
        refine exOp_ok h1 ?_
        rw [putK_eq, appK_eq]
        exact hK _ (by rw [get_put, exPutO_get, hg])
      unfold vcStep
      split
      · rename_i f args ats heq
        exfalso
        cases op <;> simp only [simpOp] at heq <;> try (cases heq; done)
        · split at heq <;> cases heq
        · injection heq with heq; subst heq; exact hno _ _ _ rfl
      · exact hv
    · cases h

theorem exOps_ok (hC : CallerOk P call) {all : List Oper} {Γ' : Slots} {H' : Heap} {K : Slots → Heap → Prop} (hK : ∀ Γ1, get Γ1 = get Γ' → K Γ1 H') : ∀ (l : List Oper) (lo : Nat) (Γ : Slots) (H : Heap) (dc : Known) (Γ0 : Slots),
    exOps T n call all l lo Γ H = some (Γ', H') → get Γ0 = get Γ → KnOk dc (get Γ0) → vcOps P T n all l lo K dc Γ0 H
  | [], lo, Γ, H, dc, Γ0, h, hg, hk => by
    simp only [exOps, Option.some.injEq] at h
    injection h with ha hb; subst ha; subst hb
    exact hK _ hg
  | o :: l, lo, Γ, H, dc, Γ0, h, hg, hk => by
    simp only [exOps] at h
    have key : ∀ lo', (bif isAlloc o.op then lo + 1 else lo) = lo' → dstOk n o = true → vcGuard all Γ0 dc o.guard (fun dc' => knPut dc' o fun d2 => vcStep P T lo o.dst (simpOp dc' o.op) Γ0 H (vcOps P T n all l lo' K d2))
        (fun dc' => knSkip dc' o fun d2 => putK Γ0 o.dst (.pv (.val undef)) fun Γ' => vcOps P T n all l lo' K d2 Γ' H) := fun lo' hlo hd => by
      rw [hlo] at h
      split at h
      · rename_i hgd
        refine guard_intro hgd hg hk fun dc' hk' => ?_
        simp only [if_true]
        split at h
        · rename_i Γ1 H1 hstep
          obtain ⟨r, h1, h2, h3⟩ := exStep_ok (P := P) hC hstep hg hk'
          refine knPut_intro hk' h2 fun d2 hk2 => h3 _ fun Γ2 hg2 => ?_
          exact exOps_ok hC hK l lo' Γ1 H1 d2 Γ2 h hg2 (by rw [hg2, h1, ← hg]; exact hk2)
        · cases h
      · rename_i hgd
        refine guard_intro hgd hg hk fun dc' hk' => ?_
        simp only [Bool.false_eq_true, if_false]
        refine knSkip_intro hk' (r := .pv (.val undef)) fun d2 hk2 => ?_
        rw [putK_eq]
        exact exOps_ok hC hK l lo' _ H d2 _ h (by rw [get_put, exPutO_get, hg]) (by rw [get_put]; exact hk2)
      · cases h
    have hd : dstOk n o = true := by
      split at h
      · rename_i hd _; exact hd
      · rename_i hd _; exact hd
      · cases h
    simp only [vcOps, hd]
    cases ha : isAlloc o.op
    · exact key lo (by rw [ha]; rfl) hd
    · exact key (lo + 1) (by rw [ha]; rfl) hd

end
end Go.Cw
