/-
  Cw, part PC: whatever order is drawn, the same is done.
-/
import Derived.Test.YtlhakdmenohdnaaCwPB
namespace Go.Cw
set_option linter.unusedVariables false
set_option linter.unusedSimpArgs false
section
variable {P : Program} {T : Tab} {n nh : Nat}

theorem app_get_ne : ∀ {u : Upd} {H : Heap} {i : Nat}, i ∉ keysOf u → (app H u)[i]? = H[i]?
  | [], H, i, _ => rfl
  | (k, o) :: u, H, i, h => by
    simp only [keysOf, List.mem_cons, not_or] at h
    simp only [app]
    rw [app_get_ne h.2, List.getElem?_set_ne (fun e => h.1 e.symm)]

theorem app_get_congr : ∀ {u : Upd} {H H' : Heap} {i : Nat}, H.length = H'.length → H[i]? = H'[i]? → (app H u)[i]? = (app H' u)[i]?
  | [], H, H', i, _, h => h
  | (k, o) :: u, H, H', i, hl, h => by
    simp only [app]
    refine app_get_congr (by simpa using hl) ?_
    by_cases hk : k = i
    · subst hk
      simp only [List.getElem?_set_self', h]
    · rw [List.getElem?_set_ne hk, List.getElem?_set_ne hk, h]

theorem app_comm {u u' : Upd} {H : Heap} (h : ∀ x ∈ keysOf u, x ∉ keysOf u') : app (app H u) u' = app (app H u') u := by
  apply List.ext_getElem?
  intro i
  by_cases hi : i ∈ keysOf u
  · rw [app_get_ne (h i hi)]
    exact app_get_congr (by rw [app_length]) (app_get_ne (h i hi)).symm
  · rw [app_get_ne (u := u) hi]
    exact app_get_congr (by rw [app_length]) (app_get_ne hi)

theorem gput_ne {g : Nat → Option AV} {d : Option Tmp} {v : AV} {x : Nat} (h : d ≠ some x) : gput g d v x = g x := by
  cases d with
  | none => rfl
  | some t => simp only [gput]; rw [if_neg]; intro e; exact h (by rw [e])

theorem gput_congr {g g' : Nat → Option AV} {d : Option Tmp} {v : AV} {x : Nat} (h : g x = g' x) : gput g d v x = gput g' d v x := by
  cases d with
  | none => exact h
  | some t => simp only [gput, h]

theorem gput_comm {g : Nat → Option AV} {d d' : Option Tmp} {v v' : AV} (h : ∀ x, d = some x → d' ≠ some x) : gput (gput g d v) d' v' = gput (gput g d' v') d v := by
  funext x
  by_cases hx : d = some x
  · rw [gput_ne (h x hx)]
    exact gput_congr (gput_ne (h x hx)).symm
  · rw [gput_ne (d := d) hx]
    exact gput_congr (gput_ne hx)

def Apart (t t' : Tr) : Prop := (∀ x, t.dst = some x → t'.dst ≠ some x) ∧ ∀ x ∈ keysOf t.u, x ∉ keysOf t'.u

theorem step_comm {t t' : Tr} {s : St} (h : Apart t t') : t'.step (t.step s) = t.step (t'.step s) := by
  unfold Tr.step
  simp only
  rw [gput_comm h.1, app_comm h.2]

theorem runS_comm {S : Nat → Bool} {t : Tr} : ∀ {l : List Tr} {i : Nat} {s : St}, (∀ (k : Nat) t', l[k]? = some t' → S (i + k) = true → Apart t t') → runS S i l (t.step s) = t.step (runS S i l s)
  | [], i, s, _ => rfl
  | t1 :: l, i, s, h => by
    simp only [runS]
    have h' : ∀ (k : Nat) t', l[k]? = some t' → S (i + 1 + k) = true → Apart t t' := fun k t' hk hs => h (k + 1) t' (by simpa using hk) (by rw [← hs]; congr 1; omega)
    cases hS : S i
    · simp only [cond_false]; exact runS_comm h'
    · simp only [cond_true]
      rw [step_comm (h 0 t1 rfl (by simpa using hS))]
      exact runS_comm h'

theorem runS_congr {S S' : Nat → Bool} : ∀ {l : List Tr} {i : Nat} {s : St}, (∀ k, k < l.length → S (i + k) = S' (i + k)) → runS S i l s = runS S' i l s
  | [], i, s, _ => rfl
  | t1 :: l, i, s, h => by
    simp only [runS]
    have h0 : S i = S' i := by have := h 0 (by simp); simpa using this
    rw [h0]
    exact runS_congr fun k hk => by have := h (k + 1) (by simpa using hk); rwa [show i + (k + 1) = i + 1 + k from by omega] at this

theorem runS_insert {S : Nat → Bool} {t : Tr} : ∀ {l : List Tr} {i j : Nat} {s : St}, l[j]? = some t → S (i + j) = false → (∀ (k : Nat) t', j < k → l[k]? = some t' → S (i + k) = true → Apart t t') →
    runS (fun m => S m || m == i + j) i l s = t.step (runS S i l s)
  | [], i, j, s, h, _, _ => by simp at h
  | t1 :: l, i, 0, s, h, hS, hc => by
    simp only [List.getElem?_cons_zero, Option.some.injEq] at h
    subst h
    simp only [Nat.add_zero] at hS
    simp only [runS, hS, Nat.add_zero, beq_self_eq_true, Bool.or_true, cond_true, cond_false]
    rw [← runS_comm fun k t' hk hs => hc (k + 1) t' (by omega) (by simpa using hk) (by rw [← hs]; congr 1; omega)]
    exact runS_congr fun k hk => by
      have : ((i + 1 + k) == i) = false := by simp; omega
      rw [this, Bool.or_false]
  | t1 :: l, i, j + 1, s, h, hS, hc => by
    simp only [runS]
    have h0 : (S i || i == i + (j + 1)) = S i := by
      have : (i == i + (j + 1)) = false := by simp
      rw [this, Bool.or_false]
    rw [h0]
    have := runS_insert (S := S) (t := t) (l := l) (i := i + 1) (j := j) (s := bif S i then t1.step s else s) (by simpa using h) (by rw [← hS]; congr 1; omega)
      (fun k t' hk hl hs => hc (k + 1) t' (by omega) (by simpa using hl) (by rw [← hs]; congr 1; omega))
    rw [show i + (j + 1) = i + 1 + j from by omega]
    exact this

theorem runS_len {S : Nat → Bool} : ∀ {l : List Tr} {i : Nat} {s : St}, (runS S i l s).2.length = s.2.length
  | [], i, s => rfl
  | t :: l, i, s => by
    simp only [runS]
    rw [runS_len]
    cases S i
    · rfl
    · exact app_length _ _

theorem runS_slot {S S' : Nat → Bool} {x : Nat} : ∀ {l : List Tr} {i : Nat} {s s' : St}, s.1 x = s'.1 x → (∀ (k : Nat) t, l[k]? = some t → S (i + k) ≠ S' (i + k) → t.dst ≠ some x) → (runS S i l s).1 x = (runS S' i l s').1 x
  | [], i, s, s', h, _ => h
  | t :: l, i, s, s', h, hc => by
    simp only [runS]
    refine runS_slot ?_ fun k t' hk hne => hc (k + 1) t' (by simpa using hk) (by rwa [show i + (k + 1) = i + 1 + k from by omega])
    have h0 := hc 0 t rfl
    simp only [Nat.add_zero] at h0
    cases hS : S i <;> cases hS' : S' i <;> simp only [cond_true, cond_false, Tr.step]
    · exact h
    · rw [gput_ne (h0 (by rw [hS, hS']; simp)), h]
    · rw [gput_ne (h0 (by rw [hS, hS']; simp)), h]
    · exact gput_congr h

theorem runS_obj {S S' : Nat → Bool} {x : Nat} : ∀ {l : List Tr} {i : Nat} {s s' : St}, s.2.length = s'.2.length → s.2[x]? = s'.2[x]? → (∀ (k : Nat) t, l[k]? = some t → S (i + k) ≠ S' (i + k) → x ∉ keysOf t.u) → (runS S i l s).2[x]? = (runS S' i l s').2[x]?
  | [], i, s, s', _, h, _ => h
  | t :: l, i, s, s', hl, h, hc => by
    simp only [runS]
    have h0 := hc 0 t rfl
    simp only [Nat.add_zero] at h0
    refine runS_obj ?_ ?_ fun k t' hk hne => hc (k + 1) t' (by simpa using hk) (by rwa [show i + (k + 1) = i + 1 + k from by omega])
    · cases S i <;> cases S' i <;> simp only [cond_true, cond_false, Tr.step, app_length, hl]
    · cases hS : S i <;> cases hS' : S' i <;> simp only [cond_true, cond_false, Tr.step]
      · exact h
      · rw [app_get_ne (h0 (by rw [hS, hS']; simp)), h]
      · rw [app_get_ne (h0 (by rw [hS, hS']; simp)), h]
      · exact app_get_congr hl h

theorem runS_none {S : Nat → Bool} : ∀ {l : List Tr} {i : Nat} {s : St}, (∀ k, i ≤ k → S k = false) → runS S i l s = s
  | [], i, s, _ => rfl
  | t :: l, i, s, h => by
    simp only [runS, h i (Nat.le_refl _), cond_false]
    exact runS_none fun k hk => h k (by omega)

/-- The trace in the text's order. -/
def Traced (P : Program) (ops : Array Oper) (n : Nat) (KD : List (List Nat × List Nat) → Slots → Heap → Prop) (l : List Oper) (i lo : Nat) (s : St) (fs : List (List Nat × List Nat)) : Prop := ∃ tr : List Tr, tr.length = l.length ∧
  (∃ Γ', get Γ' = (runS (fun _ => true) i tr s).1 ∧ KD ((tr.map fun t => (t.rd, keysOf t.u)).reverse ++ fs) Γ' (runS (fun _ => true) i tr s).2) ∧
  (∀ (k : Nat) t o, tr[k]? = some t → l[k]? = some o → t.dst = o.dst ∧ t.L = o.looksAt ops ∧ dstOk n o = true ∧ Does P ops o t (runS (fun m => decide (m < i + k)) i tr s)) ∧
  (∀ (k : Nat) t s, tr[k]? = some t → t.site = some s → lo ≤ s ∧ s < lo + allocs l) ∧
  (∀ (k k' : Nat) t t' s, tr[k]? = some t → tr[k']? = some t' → t.site = some s → t'.site = some s → k = k')

theorem vcOpsD_trace (hT : TabOk P T) {ops : Array Oper} {KD : List (List Nat × List Nat) → Slots → Heap → Prop} : ∀ (l : List Oper) (i lo : Nat) (dc : Known) (Γ : Slots) (H : Heap) (fs : List (List Nat × List Nat)),
    KnOk dc (get Γ) → vcOpsD P T n ops.toList l lo KD fs dc Γ H → Traced P ops n KD l i lo (get Γ, H) fs
  | [], i, lo, dc, Γ, H, fs, hk, h => ⟨[], rfl, ⟨Γ, rfl, h⟩, fun k t o h => by simp at h, fun k t s h => by simp at h, fun k k' t t' s h => by simp at h⟩
  | o :: l, i, lo, dc, Γ, H, fs, hk, h => by
    -- what one step and the rest give
    have glue : ∀ (t : Tr) (lo' : Nat) (dc' : Known) (Γ' : Slots), lo ≤ lo' → lo' + allocs l ≤ lo + allocs (o :: l) → (∀ s, t.site = some s → lo ≤ s ∧ s < lo') → t.dst = o.dst → t.L = o.looksAt ops → dstOk n o = true → Does P ops o t (get Γ, H) →
        KnOk dc' (get Γ') → get Γ' = (t.step (get Γ, H)).1 → vcOpsD P T n ops.toList l lo' KD ((t.rd, keysOf t.u) :: fs) dc' Γ' (t.step (get Γ, H)).2 → Traced P ops n KD (o :: l) i lo (get Γ, H) fs := fun t lo' dc' Γ' hlo hhi hsite hd hL hdn hdoes hk' hget hrest => by
      obtain ⟨tr, e1, ⟨Γf, e2, e3⟩, e4, e5, e6⟩ := vcOpsD_trace hT l (i + 1) lo' dc' Γ' _ _ hk' hrest
      have hst : ((get Γ', (t.step (get Γ, H)).2) : St) = t.step (get Γ, H) := by rw [hget]
      rw [hst] at e2 e3 e4
      exact ⟨t :: tr, by simp [e1], ⟨Γf, by simpa [runS] using e2, by simpa [runS] using e3⟩, fun k t' o' hk1 hk2 => by
        cases k with
        | zero =>
          simp only [List.getElem?_cons_zero, Option.some.injEq] at hk1 hk2
          subst hk1; subst hk2
          refine ⟨hd, hL, hdn, ?_⟩
          rw [runS_none fun k hk => by simp; omega]
          exact hdoes
        | succ k =>
          obtain ⟨g1, g2, g3, g4⟩ := e4 k t' o' (by simpa using hk1) (by simpa using hk2)
          refine ⟨g1, g2, g3, ?_⟩
          simp only [runS]
          rw [show decide (i < i + (k + 1)) = true from by simp, cond_true, show (fun m => decide (m < i + (k + 1))) = (fun m => decide (m < i + 1 + k)) from by funext m; congr 1; simp; omega]
          exact g4, fun k t' s hk1 hs => by
        cases k with
        | zero =>
          simp only [List.getElem?_cons_zero, Option.some.injEq] at hk1
          subst hk1
          have := hsite s hs; omega
        | succ k => have := e5 k t' s (by simpa using hk1) hs; omega, fun k k' t1 t2 s hk1 hk2 hs1 hs2 => by
        cases k with
        | zero =>
          cases k' with
          | zero => rfl
          | succ k' =>
            simp only [List.getElem?_cons_zero, Option.some.injEq] at hk1
            subst hk1
            have a1 := hsite s hs1
            have a2 := e5 k' t2 s (by simpa using hk2) hs2
            omega
        | succ k =>
          cases k' with
          | zero =>
            simp only [List.getElem?_cons_zero, Option.some.injEq] at hk2
            subst hk2
            have a1 := hsite s hs2
            have a2 := e5 k t1 s (by simpa using hk1) hs1
            omega
          | succ k' => rw [e6 k k' t1 t2 s (by simpa using hk1) (by simpa using hk2) hs1 hs2]⟩
    have one : ∀ (lo' : Nat), (bif isAlloc o.op then lo + 1 else lo) = lo' → dstOk n o = true →
        vcGuard ops.toList Γ dc o.guard (fun dc' => knPut dc' o fun d2 => vcStepD P T lo o.dst (simpOp dc' o.op) Γ H fun Γ' H' f => vcOpsD P T n ops.toList l lo' KD (f :: fs) d2 Γ' H')
          (fun dc' => knSkip dc' o fun d2 => putK Γ o.dst (.pv (.val undef)) fun Γ' => vcOpsD P T n ops.toList l lo' KD (([], []) :: fs) d2 Γ' H) → Traced P ops n KD (o :: l) i lo (get Γ, H) fs := fun lo' hlo hd hg => by
      have hb : lo ≤ lo' ∧ lo' + allocs l ≤ lo + allocs (o :: l) := by
        simp only [allocs]
        cases e : isAlloc o.op <;> rw [e] at hlo <;> simp only [cond_true, cond_false] at hlo ⊢ <;> omega
      obtain ⟨b, hdec, dc', hk', hbr⟩ := vcGuard_dec rfl hk hg
      cases b
      · simp only [Bool.false_eq_true, if_false] at hbr
        obtain ⟨d2, h2, h3⟩ := knSkip_spec hk' hbr
        rw [putK_eq] at h2
        refine glue ⟨o.dst, o.looksAt ops, .pv (.val undef), [], [], none⟩ lo' d2 _ hb.1 hb.2 (fun s hs => by cases hs) rfl rfl hd ?_ (by rw [get_put]; exact h3 _) (get_put _ _ _) h2
        intro g' H' I β a w next Q h1 h2 h3 h4 h5 h6 h7
        rw [if_neg (by rw [hdec g' a I β w h1 h5]; exact Bool.false_ne_true)]
        exact h7 undef I β w h4 (rel_val _) (Evo.refl _ _ _) (fun s hs _ => hs)
      · simp only [if_true] at hbr
        obtain ⟨d2, h2, h3⟩ := knPut_spec hk' hbr
        obtain ⟨t, t1, t2, t3, t4, ⟨Γ', t5, t6⟩, t7⟩ := vcStepD_does (ops := ops) hT rfl hk' h2 (fun g' a I β w => hdec g' a I β w)
        refine glue t lo' d2 Γ' hb.1 hb.2 (fun s hs => ?_) t1 t2 hd t7 (by rw [t5]; simp only [Tr.step, t1]; exact h3 _ t4) t5 t6
        rw [t3] at hs
        cases e : isAlloc o.op <;> rw [e] at hs hlo <;> simp only [cond_true, cond_false] at hs hlo
        · cases hs
        · injection hs with hs; omega
    simp only [vcOpsD] at h
    split at h
    · rename_i hd ha; exact one (lo + 1) (by rw [ha]; rfl) hd h
    · rename_i hd ha; exact one lo (by rw [ha]; rfl) hd h
    · exact h.elim

end
end Go.Cw
