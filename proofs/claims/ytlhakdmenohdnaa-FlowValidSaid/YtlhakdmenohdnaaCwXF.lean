/-
  Cw, part XF: statements, code and functions that are run by computation.
-/
import Derived.Test.YtlhakdmenohdnaaCwXE
namespace Go.Cw
set_option linter.unusedVariables false
set_option linter.unusedSimpArgs false
section
variable {P : Program} {T : Tab} {n nh : Nat} {call : Caller}

theorem exStepD_ok (hC : CallerOk P call) {lo : Nat} {dst : Option Tmp} {op : Op} {Γ Γ' : Slots} {H H' : Heap} {f : List Nat × List Nat} (h : exStepD T call lo dst op Γ H = some (Γ', H', f)) {dc : Known} {Γ0 : Slots} (hg : get Γ0 = get Γ) (hk : KnOk dc (get Γ0)) :
    ∃ r, get Γ' = gput (get Γ) dst r ∧ (∀ b, knRes dc op = some b → r = vbool b) ∧ ∀ K : Slots → Heap → List Nat × List Nat → Prop, (∀ Γ1, get Γ1 = get Γ' → K Γ1 H' f) → vcStepD P T lo dst (simpOp dc op) Γ0 H K := by
  unfold exStepD at h
  split at h
  · rename_i f0 args ats
    split at h
    · rename_i fv vs hfv hvs
      split at h
      · rename_i fid caps hcall
        simp only at h
        split at h
        · rename_i as Hc g1 g2 g3
          split at h
          · rename_i r Hc' g4
            split at h
            · rename_i g5
              injection h with h; injection h with ha hb; injection hb with hb hc; subst ha; subst hb; subst hc
              refine ⟨_, exPutO_get _ _ _, fun b hb => (by cases hb), fun K hK => ?_⟩
              have hev : ev Γ0 = ev Γ := by rw [ev_eq, ev_eq, hg]
              simp only [simpOp, vcStepD, hev, hfv, hvs]
              have fin : vcFunD P fid (vs ++ caps) H (fun r u rd => putK Γ0 dst r fun Γ' => appK H u fun H2 => K Γ' H2 (rd, keysOf u)) :=
                ⟨_, ALeL.refl, .inr ⟨_, Hc, as, r, Hc', g3, unHeap_passed g2, (unL_ren _ _ g1).symm, hC _ _ _ _ _ g4, Nat.eq_of_beq_eq_true g5, by
                  dsimp only
                  rw [putK_eq, appK_eq]
                  exact hK _ (by rw [get_put, exPutO_get, hg])⟩⟩
              unfold callOf at hcall
              split at hcall
              · injection hcall with hcall; injection hcall with h1 h2; subst h1; subst h2; exact fin
              · injection hcall with hcall; injection hcall with h1 h2; subst h1; subst h2; exact fin
              · cases hcall
            · cases h
          · cases h
        · cases h
      · cases h
    · cases h
  · rename_i hno
    split at h
    · rename_i r u rd hex
      injection h with h; injection h with ha hb; injection hb with hb hc; subst ha; subst hb; subst hc
      rw [ev_eq, ← hg] at hex
      obtain ⟨h1, h2⟩ := exOp_simp hk hex
      refine ⟨r, exPutO_get _ _ _, h2, fun K hK => ?_⟩
      have hv : vcOp T lo (simpOp dc op) (ev Γ0) H fun r u rd => putK Γ0 dst r fun Γ' => appK H u fun H2 => K Γ' H2 (rd, keysOf u) := by
        rw [ev_eq]
        refine exOp_ok h1 ?_
        rw [putK_eq, appK_eq]
        exact hK _ (by rw [get_put, exPutO_get, hg])
      unfold vcStepD
      split
      · rename_i f args ats heq
        exfalso
        cases op <;> simp only [simpOp] at heq <;> try (cases heq; done)
        · split at heq <;> cases heq
        · injection heq with heq; subst heq; exact hno _ _ _ rfl
      · exact hv
    · cases h

theorem exOpsD_ok (hC : CallerOk P call) {all : List Oper} {fs' : List (List Nat × List Nat)} {Γ' : Slots} {H' : Heap} {K : List (List Nat × List Nat) → Slots → Heap → Prop} (hK : ∀ Γ1, get Γ1 = get Γ' → K fs' Γ1 H') :
    ∀ (l : List Oper) (lo : Nat) (fs : List (List Nat × List Nat)) (Γ : Slots) (H : Heap) (dc : Known) (Γ0 : Slots), exOpsD T n call all l lo fs Γ H = some (fs', Γ', H') → get Γ0 = get Γ → KnOk dc (get Γ0) → vcOpsD P T n all l lo K fs dc Γ0 H
  | [], lo, fs, Γ, H, dc, Γ0, h, hg, hk => by
    simp only [exOpsD, Option.some.injEq] at h
    injection h with ha hb; injection hb with hb hc; subst ha; subst hb; subst hc
    exact hK _ hg
  | o :: l, lo, fs, Γ, H, dc, Γ0, h, hg, hk => by
    simp only [exOpsD] at h
    have key : ∀ lo', (bif isAlloc o.op then lo + 1 else lo) = lo' → dstOk n o = true → vcGuard all Γ0 dc o.guard (fun dc' => knPut dc' o fun d2 => vcStepD P T lo o.dst (simpOp dc' o.op) Γ0 H fun Γ' H' f => vcOpsD P T n all l lo' K (f :: fs) d2 Γ' H')
        (fun dc' => knSkip dc' o fun d2 => putK Γ0 o.dst (.pv (.val undef)) fun Γ' => vcOpsD P T n all l lo' K (([], []) :: fs) d2 Γ' H) := fun lo' hlo hd => by
      rw [hlo] at h
      split at h
      · rename_i hgd
        refine guard_intro hgd hg hk fun dc' hk' => ?_
        simp only [if_true]
        split at h
        · rename_i Γ1 H1 f1 hstep
          obtain ⟨r, h1, h2, h3⟩ := exStepD_ok (P := P) hC hstep hg hk'
          refine knPut_intro hk' h2 fun d2 hk2 => h3 _ fun Γ2 hg2 => ?_
          exact exOpsD_ok hC hK l lo' _ Γ1 H1 d2 Γ2 h hg2 (by rw [hg2, h1, ← hg]; exact hk2)
        · cases h
      · rename_i hgd
        refine guard_intro hgd hg hk fun dc' hk' => ?_
        simp only [Bool.false_eq_true, if_false]
        refine knSkip_intro hk' (r := .pv (.val undef)) fun d2 hk2 => ?_
        rw [putK_eq]
        exact exOpsD_ok hC hK l lo' _ _ H d2 _ h (by rw [get_put, exPutO_get, hg]) (by rw [get_put]; exact hk2)
      · cases h
    have hd : dstOk n o = true := by
      split at h
      · rename_i hd _; exact hd
      · rename_i hd _; exact hd
      · cases h
    simp only [vcOpsD, hd]
    cases ha : isAlloc o.op
    · exact key lo (by rw [ha]; rfl) hd
    · exact key (lo + 1) (by rw [ha]; rfl) hd

theorem exRegion_ok (hC : CallerOk P call) {ops : Array Oper} {draw : Bool} {Γ Γ' : Slots} {H H' : Heap} (h : exRegion T n call ops draw Γ H = some (Γ', H')) {K : Slots → Heap → Prop} (hK : ∀ Γ1, get Γ1 = get Γ' → K Γ1 H')
    {Γ0 : Slots} (hg : get Γ0 = get Γ) : vcRegion P T n ops draw K Γ0 H := by
  unfold exRegion at h
  unfold vcRegion
  cases draw with
  | false =>
    simp only at h ⊢
    split
    · rename_i h0
      rw [h0] at h
      exact exOps_ok hC hK _ _ _ _ [] _ h hg (knOk_nil _)
    · rename_i m h0
      rw [h0] at h
      rw [lenK_eq, forceH_eq, Nat.zero_add]
      exact exOps_ok hC hK _ _ _ _ [] _ h hg (knOk_nil _)
  | true =>
    simp only at h ⊢
    split at h
    · rename_i fs Γ1 H1 hex
      split at h
      · rename_i hd
        injection h with h; injection h with ha hb; subst ha; subst hb
        split
        · rename_i h0
          rw [h0] at hex
          exact exOpsD_ok hC (K := fun fs Γ' H' => drawOk ops fs.reverse = true ∧ K Γ' H') (fun Γ2 hg2 => ⟨hd, hK Γ2 hg2⟩) _ _ _ _ _ [] _ hex hg (knOk_nil _)
        · rename_i m h0
          rw [h0] at hex
          rw [lenK_eq, forceH_eq, Nat.zero_add]
          exact exOpsD_ok hC (K := fun fs Γ' H' => drawOk ops fs.reverse = true ∧ K Γ' H') (fun Γ2 hg2 => ⟨hd, hK Γ2 hg2⟩) _ _ _ _ _ [] _ hex hg (knOk_nil _)
      · cases h
    · cases h

theorem exCode_ok (hC : CallerOk P call) : ∀ (k : Nat),
    (∀ (c : Code) (Γ : Slots) (H : Heap) (e : Exit) (Γ' : Slots) (H' : Heap), exCode T n call k c Γ H = some (e, Γ', H') → ∀ (Q : Exit → Slots → Heap → Prop), (∀ Γ1, get Γ1 = get Γ' → Q e Γ1 H') → ∀ Γ0, get Γ0 = get Γ → vcCode P T n nh c Q Γ0 H) ∧
    (∀ (c : Code) (Γ : Slots) (H : Heap) (e : Exit) (Γ' : Slots) (H' : Heap), exCode T n call k (.loop c) Γ H = some (e, Γ', H') → ∀ (Q : Exit → Slots → Heap → Prop), (∀ Γ1, get Γ1 = get Γ' → Q e Γ1 H') → ∃ m, ∀ Γ0, get Γ0 = get Γ → rounds (vcCode P T n nh c) Q m Γ0 H)
  | 0 => ⟨fun c Γ H e Γ' H' h => by simp [exCode] at h, fun c Γ H e Γ' H' h => by simp [exCode] at h⟩
  | k + 1 => by
    obtain ⟨ihA, ihB⟩ := exCode_ok hC k
    have loop : ∀ (c : Code) (Γ : Slots) (H : Heap) (e : Exit) (Γ' : Slots) (H' : Heap), exCode T n call (k + 1) (.loop c) Γ H = some (e, Γ', H') → ∀ (Q : Exit → Slots → Heap → Prop), (∀ Γ1, get Γ1 = get Γ' → Q e Γ1 H') → ∃ m, ∀ Γ0, get Γ0 = get Γ → rounds (vcCode P T n nh c) Q m Γ0 H := fun c Γ H e Γ' H' h Q hQ => by
      simp only [exCode] at h
      split at h
      · rename_i Γ1 H1 h1
        obtain ⟨m, hm⟩ := ihB c Γ1 H1 e Γ' H' h Q hQ
        exact ⟨m + 1, fun Γ0 hg => ihA c Γ H .normal Γ1 H1 h1 _ (fun Γ2 hg2 => hm Γ2 hg2) Γ0 hg⟩
      · rename_i r hne
        refine ⟨1, fun Γ0 hg => ihA c Γ H e Γ' H' h _ (fun Γ2 hg2 => ?_) Γ0 hg⟩
        cases e <;> simp only [thenQ]
        case normal => exact absurd h (hne _ _)
        all_goals exact hQ _ hg2
    refine ⟨fun c Γ H e Γ' H' h Q hQ Γ0 hg => ?_, loop⟩
    have e3 : ∀ {a b : Exit} {Γ1 Γ2 : Slots} {H1 H2 : Heap}, some (a, Γ1, H1) = some (b, Γ2, H2) → a = b ∧ Γ1 = Γ2 ∧ H1 = H2 := fun h => by
      injection h with h; injection h with h1 h; injection h with h2 h3; exact ⟨h1, h2, h3⟩
    cases c with
    | skip => simp only [exCode] at h; obtain ⟨rfl, rfl, rfl⟩ := e3 h; exact hQ _ hg
    | label l => simp only [exCode] at h; obtain ⟨rfl, rfl, rfl⟩ := e3 h; exact hQ _ hg
    | region id ops draw =>
      simp only [exCode] at h
      split at h
      · rename_i h1; obtain ⟨rfl, rfl, rfl⟩ := e3 h
        exact gh.same (.inl (exRegion_ok hC h1 hQ hg))
      · cases h
    | seq a b =>
      simp only [exCode] at h
      simp only [vcCode]
      refine gh.same ?_
      split at h
      · rename_i Γ1 H1 h1
        exact ihA a Γ H .normal Γ1 H1 h1 _ (fun Γ2 hg2 => ihA b Γ1 H1 e Γ' H' h Q hQ Γ2 hg2) Γ0 hg
      · rename_i r hne
        refine ihA a Γ H e Γ' H' h _ (fun Γ2 hg2 => ?_) Γ0 hg
        cases e <;> simp only [thenQ]
        case normal => exact absurd h (hne _ _)
        all_goals exact hQ _ hg2
    | cond c x y =>
      simp only [exCode] at h
      have hev : ev Γ0 = ev Γ := by rw [ev_eq, ev_eq, hg]
      simp only [vcCode]
      refine gh.same ?_
      rw [hev]
      split at h
      · rename_i h1; rw [h1]; exact ⟨fun _ => ihA x Γ H e Γ' H' h Q hQ Γ0 hg, fun e => nomatch e⟩
      · rename_i h1; rw [h1]; exact ⟨fun e => (nomatch e), fun _ => ihA y Γ H e Γ' H' h Q hQ Γ0 hg⟩
      · cases h
    | block id c =>
      simp only [exCode] at h
      simp only [vcCode]
      refine gh.same ?_
      split at h
      · rename_i id' Γ1 H1 h1
        refine ihA c Γ H (.exit id') Γ1 H1 h1 _ (fun Γ2 hg2 => ?_) Γ0 hg
        simp only [inBlockQ]
        cases hb : Nat.beq id' id
        · rw [hb] at h; obtain ⟨rfl, rfl, rfl⟩ := e3 h; exact hQ _ hg2
        · rw [hb] at h; obtain ⟨rfl, rfl, rfl⟩ := e3 h; exact hQ _ hg2
      · rename_i r hne
        refine ihA c Γ H e Γ' H' h _ (fun Γ2 hg2 => ?_) Γ0 hg
        cases e <;> simp only [inBlockQ]
        case exit => exact absurd h (hne _ _ _)
        all_goals exact hQ _ hg2
    | scope c =>
      simp only [exCode] at h
      simp only [vcCode]
      refine gh.same ?_
      split at h
      · cases h
      · rename_i r hne
        refine ihA c Γ H e Γ' H' h _ (fun Γ2 hg2 => ?_) Γ0 hg
        cases e <;> simp only [noGotoQ]
        case goto => exact absurd h (hne _ _ _)
        all_goals exact hQ _ hg2
    | loop c =>
      simp only [vcCode]
      obtain ⟨m, hm⟩ := loop c Γ H e Γ' H' h Q hQ
      exact gh.same (.inr ⟨m, hm Γ0 hg⟩)
    | exit id => simp only [exCode] at h; obtain ⟨rfl, rfl, rfl⟩ := e3 h; exact hQ _ hg
    | ret => simp only [exCode] at h; obtain ⟨rfl, rfl, rfl⟩ := e3 h; exact gh.same (hQ _ hg)
    | _ => simp [exCode] at h

theorem resOf_congr {Γ Γ0 : Slots} (hg : get Γ0 = get Γ) {H : Heap} : ∀ (rs : List ResultVar), resOf T Γ0 H rs = resOf T Γ H rs
  | [] => rfl
  | .tmp t :: l => by simp only [resOf, hg, resOf_congr hg l]
  | .cell a t :: l => by simp only [resOf, hg, resOf_congr hg l]

theorem exRet_ok {k : Nat} {r : AV} {H : Heap} {r' : AV} {H' : Heap} (h : exRet k r H = some (r', H')) : retOk k r H fun x Hx => x = r' ∧ Hx = H' := by
  simp only [exRet] at h
  split at h
  · rename_i r0 H0 h1 h2 h3
    injection h with h; injection h with ha hb; subst ha; subst hb
    refine ⟨_, _, h3, ?_, unHeapN_kept h2, .inl ⟨_, (unC_ren _ _ h1).symm, rfl, rfl⟩⟩
    obtain ⟨l, hl⟩ := close_pre (H := H) 100000 (idsV r (rowsOfIds H (tabl 0 k) [])) (tabl 0 k)
    rw [hl, List.take_append_of_le_length (by rw [tabl_length]; exact Nat.le_refl _), List.take_of_length_le (by rw [tabl_length]; exact Nat.le_refl _)]
  · cases h

/-- Every function that is run by computation keeps the contract that the run tells. -/
theorem exFun_ok (hT : TabOk P T) {F : FTab} (hF : FTabOk P F) (hm : P.follows .mixedOrders = true) (fuel : Nat) : ∀ d, CallerOk P (exFun T F fuel d)
  | 0 => fun f as Hc r H' h => by simp [exFun] at h
  | d + 1 => fun f as Hc r H' h => by
    simp only [exFun] at h
    split at h
    · rename_i fd hfd
      have hfo := hF _ _ hfd
      unfold fnOf at hfo
      split at hfo
      · rename_i fn hfn
        split at hfo
        · rename_i c hbody hname
          injection hfo with hfo; subst hfo
          simp only at h
          split at h
          · rename_i hle
            split at h
            · rename_i e Γ' H2 hex
              refine acall_of_code hT hm (fun _ _ _ => draws_ok hT hm) hfn hname hbody (Nat.le_of_ble_eq_true hle) ?_
              refine (exCode_ok (nh := Hc.length) (exFun_ok hT hF hm fuel d) fuel).1 c _ _ e Γ' H2 hex _ (fun Γ1 hg1 => ?_) _ rfl
              have fin : ∀ (_ : (match resOf T Γ' H2 fn.results.toList with
                  | some [r] => exRet Hc.length r H2
                  | some rs => exRet Hc.length (.tup rs) H2
                  | none => none) = some (r, H')), (match resOf T Γ1 H2 fn.results.toList with
                  | some [r0] => retOk Hc.length r0 H2 fun x Hx => x = r ∧ Hx = H'
                  | some rs => retOk Hc.length (.tup rs) H2 fun x Hx => x = r ∧ Hx = H'
                  | none => False) := fun h => by
                rw [resOf_congr hg1]
                split at h
                · exact exRet_ok h
                · rename_i rs hne h1
                  match rs, hne, h with
                  | [], _, h => exact exRet_ok h
                  | [a], hne, _ => exact absurd rfl (hne a)
                  | a :: b :: l, _, h => exact exRet_ok h
                · cases h
              cases e with
              | normal => exact fin h
              | ret => exact fin h
              | _ => cases h
            · cases h
          · cases h
        · cases hfo
      · cases hfo
    · cases h

end
end Go.Cw
