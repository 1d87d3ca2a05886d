/-
  Cw, part PD: statements that draw their order are sound.
-/
import Derived.Test.YtlhakdmenohdnaaCwPC
namespace Go.Cw
set_option linter.unusedVariables false
set_option linter.unusedSimpArgs false
section
variable {P : Program} {T : Tab} {n nh : Nat}

/-! Masks. -/
theorem mask_fold {acc : List Nat} {i : Nat} : ∀ (es : List Edge) (s : Nat), (es.foldl (fun s e => bif Region.binds .any e then (s ||| 2 ^ e.on) ||| acc.getD e.on 0 else s) s).testBit i = true →
    s.testBit i = true ∨ ∃ e ∈ es, Region.binds .any e = true ∧ (e.on = i ∨ (acc.getD e.on 0).testBit i = true)
  | [], s, h => .inl h
  | e :: es, s, h => by
    simp only [List.foldl_cons] at h
    rcases mask_fold es _ h with h | ⟨e', h1, h2, h3⟩
    · cases hb : Region.binds .any e
      · rw [hb] at h; exact .inl h
      · rw [hb] at h
        simp only [cond_true, Nat.testBit_or, Bool.or_eq_true, Nat.testBit_two_pow, decide_eq_true_eq] at h
        rcases h with (h | h) | h
        · exact .inl h
        · exact .inr ⟨e, by simp, hb, .inl h⟩
        · exact .inr ⟨e, by simp, hb, .inr h⟩
    · exact .inr ⟨e', by simp [h1], h2, h3⟩

def Closed (ops : Array Oper) (S : Nat → Bool) : Prop := ∀ (j : Nat) o, S j = true → ops[j]? = some o → ∀ e ∈ o.after, Region.binds .any e = true → S e.on = true

def MaskOk (ops : Array Oper) (S : Nat → Bool) (acc : List Nat) : Prop := ∀ (j i : Nat), (acc.getD j 0).testBit i = true → (∀ o, ops[j]? = some o → ∀ e ∈ o.after, Region.binds .any e = true → S e.on = true) → S i = true

theorem masks_ok {ops : Array Oper} {S : Nat → Bool} (hS : Closed ops S) : ∀ (l : List Oper) (acc : List Nat), (∀ j, l[j]? = ops[acc.length + j]?) → MaskOk ops S acc → MaskOk ops S (masks l acc)
  | [], acc, _, h => h
  | o :: l, acc, hl, h => by
    simp only [masks]
    refine masks_ok hS l _ (fun j => by have := hl (j + 1); simp only [List.getElem?_cons_succ] at this; rw [this]; congr 1; simp; omega) fun j i hb hp => ?_
    rcases Nat.lt_trichotomy j acc.length with hj | hj | hj
    · rw [List.getD_eq_getElem?_getD, List.getElem?_append_left hj, ← List.getD_eq_getElem?_getD] at hb
      exact h j i hb hp
    · subst hj
      have ho : ops[acc.length]? = some o := by have := hl 0; simpa using this.symm
      rw [List.getD_eq_getElem?_getD, List.getElem?_append_right (Nat.le_refl _), Nat.sub_self, List.getElem?_cons_zero, Option.getD_some] at hb
      unfold maskOf at hb
      rcases mask_fold _ _ hb with hz | ⟨e, h1, h2, h3⟩
      · simp at hz
      · have he : S e.on = true := hp o ho e (by simpa using h1) h2
        rcases h3 with h3 | h3
        · rw [← h3]; exact he
        · exact h e.on i h3 fun o' ho' => hS e.on o' he ho'
    · rw [List.getD_eq_getElem?_getD, List.getElem?_eq_none (by simp; omega)] at hb
      simp at hb

/-! How many are left. -/
def cntF (f : Nat → Bool) : Nat → Nat
  | 0 => 0
  | m + 1 => cntF f m + (bif f m then 1 else 0)

theorem cntF_mono {f g : Nat → Bool} : ∀ {m : Nat}, (∀ k, k < m → g k = true → f k = true) → cntF g m ≤ cntF f m
  | 0, _ => Nat.le_refl _
  | m + 1, h => by
    simp only [cntF]
    have := cntF_mono (f := f) (g := g) (m := m) fun k hk => h k (by omega)
    have h1 := h m (by omega)
    cases hg : g m <;> cases hf : f m <;> simp only [cond_true, cond_false] <;> first | omega | (rw [h1 hg] at hf; cases hf)

theorem cntF_lt {f g : Nat → Bool} {j : Nat} : ∀ {m : Nat}, (∀ k, k < m → g k = true → f k = true) → j < m → f j = true → g j = false → cntF g m < cntF f m
  | 0, _, h, _, _ => by omega
  | m + 1, h, hj, hf, hg => by
    simp only [cntF]
    by_cases e : j = m
    · subst e
      have := cntF_mono (f := f) (g := g) (m := j) fun k hk => h k (by omega)
      rw [hf, hg]; simp only [cond_true, cond_false]; omega
    · have := cntF_lt (f := f) (g := g) (m := m) (fun k hk => h k (by omega)) (by omega) hf hg
      have h1 := h m (by omega)
      cases hg : g m <;> cases hf : f m <;> simp only [cond_true, cond_false] <;> first | omega | (rw [h1 hg] at hf; cases hf)

theorem cntF_zero {f : Nat → Bool} : ∀ {m : Nat}, cntF f m = 0 → ∀ k, k < m → f k = false
  | 0, _, k, hk => by omega
  | m + 1, h, k, hk => by
    simp only [cntF] at h
    by_cases e : k = m
    · subst e
      cases hf : f k
      · rfl
      · rw [hf] at h; simp only [cond_true] at h; omega
    · exact cntF_zero (m := m) (by omega) k (by omega)

variable {I0 : Nat → Prop} {β0 : Beta} {w0 : World}

theorem disj_spec {xs ys : List Nat} (h : disj xs ys = true) : ∀ x ∈ xs, x ∉ ys := fun x hx hy => by
  simp only [disj, List.all_eq_true, Bool.not_eq_true'] at h
  have := h x hx x hy
  simp at this

theorem draws_ok (hT : TabOk P T) (hm : P.follows .mixedOrders = true) : DrawsOk P T n I0 β0 w0 := by
  intro id ops K Q lo Γ H a w hK hs h
  obtain ⟨tr, htl, ⟨Γf, hgf, hdraw, hKf⟩, hdoes, hsites, huniq⟩ := vcOpsD_trace hT ops.toList 0 lo [] Γ H [] (knOk_nil _) h
  have hlen : tr.length = ops.size := by simpa using htl
  simp only [List.append_nil, List.reverse_reverse] at hdraw
  simp only [drawOk, Bool.and_eq_true, List.all_eq_true] at hdraw
  obtain ⟨hd1, hd2⟩ := hdraw
  have hback : ∀ (j : Nat) o, ops[j]? = some o → ∀ e ∈ o.after, Region.binds .any e = true → e.on < j := fun j o ho e he hb => by
    have hmem : (o, j) ∈ ops.toList.zipIdx := by
      rw [List.mem_zipIdx_iff_getElem?]; simpa using ho
    have := hd1 (o, j) hmem
    simp only [List.all_eq_true] at this
    have := this e (by simpa using he)
    rw [hb] at this
    simpa [Nat.blt_eq] using this
  have hpair : ∀ (S : Nat → Bool), Closed ops S → (∀ j, S j = true → j < ops.size) → ∀ (i j : Nat) ti tj, i < j → tr[i]? = some ti → tr[j]? = some tj → (∀ o, ops[j]? = some o → ∀ e ∈ o.after, Region.binds .any e = true → S e.on = true) → S i = false →
      Apart ti tj ∧ (∀ x, ti.dst = some x → x ∉ tj.L) ∧ (∀ x, tj.dst = some x → x ∉ ti.L) ∧ (∀ x ∈ keysOf ti.u, x ∉ tj.rd) ∧ (∀ x ∈ keysOf tj.u, x ∉ ti.rd) := fun S hS hin i j ti tj hij hi hj hp hSi => by
    have hjl : j < ops.size := by rw [← hlen]; exact (List.getElem?_eq_some_iff.1 hj).1
    have := hd2 j (by simpa using hjl) i (by simpa using hij)
    simp only [pairOk, Bool.or_eq_true] at this
    rcases this with hb | hb
    · have hM : MaskOk ops S (masks ops.toList []) := masks_ok hS ops.toList [] (fun j => by simp) (fun j i hb => by simp at hb)
      have := hM j i hb hp
      rw [hSi] at this; cases this
    · have hoi : ops[i]? = some ops[i] := Array.getElem?_eq_getElem (by omega)
      have hoj : ops[j]? = some ops[j] := Array.getElem?_eq_getElem hjl
      simp only [hoi, hoj, List.getElem?_map, hi, hj, Option.map_some, Bool.and_eq_true] at hb
      obtain ⟨⟨⟨hap, h1⟩, h2⟩, h3⟩ := hb
      obtain ⟨a1, a2, a3⟩ := Oper.apart_spec hap
      obtain ⟨di, li, _, _⟩ := hdoes i ti ops[i] hi (by rw [Array.getElem?_toList]; exact hoi)
      obtain ⟨dj, lj, _, _⟩ := hdoes j tj ops[j] hj (by rw [Array.getElem?_toList]; exact hoj)
      refine ⟨⟨fun x hx => by rw [dj]; exact a2 x (by rw [← di]; exact hx), disj_spec h2⟩, fun x hx => by rw [lj]; exact a1 x (by rw [← di]; exact hx), fun x hx => by rw [li]; exact a3 x (by rw [← dj]; exact hx), disj_spec h1, disj_spec h3⟩
  have main : ∀ (fuel : Nat) (listed : Array Bool) (a : Act) (w : World) (I : Nat → Prop) (β : Beta), listed.size = ops.size → Closed ops (fun k => listed.getD k false) → cntF (fun k => !listed.getD k false) ops.size ≤ fuel →
      Sim I0 β0 w0 n 0 0 (runS (fun k => listed.getD k false) 0 tr (get Γ, H)).1 (runS (fun k => listed.getD k false) 0 tr (get Γ, H)).2 I β a w →
      (∀ (k : Nat) t s, tr[k]? = some t → t.site = some s → listed.getD k false = false → β[s]? = some none) → wpAny P .any ops Q fuel listed a w := by
    intro fuel
    induction fuel with
    | zero =>
      intro listed a w I β hsz hcl hcnt hsim hfree
      have hall : ∀ k, k < ops.size → listed.getD k false = true := fun k hk => by
        have := cntF_zero (Nat.le_zero.1 hcnt) k hk
        simpa using this
      refine ⟨?_, hK Γf _ a w ⟨I, β, ?_⟩ hKf⟩
      · apply List.eq_nil_iff_forall_not_mem.2
        intro j hj
        obtain ⟨h1, o, ho, _⟩ := mem_ready.1 hj
        have hjl := (Array.getElem?_eq_some_iff.1 ho).1
        have h2 := hall j hjl
        simp [hsz, hjl] at h1 h2
        rw [h1] at h2; cases h2
      · rw [hgf, ← runS_congr (S := fun k => listed.getD k false) (S' := fun _ => true) fun k hk => hall _ (by omega)]
        exact hsim
    | succ fuel ih =>
      intro listed a w I β hsz hcl hcnt hsim hfree
      refine ⟨fun hr => ?_, fun j hj => ?_⟩
      · have hall : ∀ k, k < ops.size → listed.getD k false = true := fun k => by
          induction k using Nat.strongRecOn with
          | _ k ihk =>
            intro hk
            cases hlk : listed.getD k false
            · exfalso
              have : k ∈ Region.ready .any ops listed := mem_ready.2 ⟨by simp [hsz, hk] at hlk ⊢; exact hlk, ops[k], Array.getElem?_eq_getElem hk, fun e he hb => ihk e.on (hback k _ (Array.getElem?_eq_getElem hk) e he hb) (by
                have := hback k _ (Array.getElem?_eq_getElem hk) e he hb; omega)⟩
              rw [hr] at this; cases this
            · rfl
        refine hK Γf _ a w ⟨I, β, ?_⟩ hKf
        rw [hgf, ← runS_congr (S := fun k => listed.getD k false) (S' := fun _ => true) fun k hk => hall _ (by omega)]
        exact hsim
      · obtain ⟨hj0, o, ho, hpre⟩ := mem_ready.1 hj
        have hjl : j < ops.size := (Array.getElem?_eq_some_iff.1 ho).1
        have hSj : listed.getD j false = false := by simp [hsz, hjl] at hj0 ⊢; exact hj0
        have hin : ∀ k, listed.getD k false = true → k < ops.size := fun k hk => by
          rcases Nat.lt_or_ge k ops.size with h | h
          · exact h
          · simp [Array.getElem?_eq_none (by omega : listed.size ≤ k)] at hk
        obtain ⟨t, ht⟩ : ∃ t, tr[j]? = some t := ⟨_, List.getElem?_eq_getElem (by omega)⟩
        obtain ⟨htd, htL, hdn, hdo⟩ := hdoes j t o ht (by simpa using ho)
        have hpj : ∀ o', ops[j]? = some o' → ∀ e ∈ o'.after, Region.binds .any e = true → listed.getD e.on false = true := fun o' ho' => by
          rw [ho] at ho'; injection ho' with ho'; subst ho'; exact hpre
        -- before j
        have before : ∀ (k : Nat) tk, k < j → tr[k]? = some tk → listed.getD k false = false → _ := fun k tk hk htk hf => hpair (fun k => listed.getD k false) hcl hin k j tk t hk htk ht hpj hf
        have after : ∀ (k : Nat) tk, j < k → tr[k]? = some tk → listed.getD k false = true → _ := fun k tk hk htk hf => hpair (fun k => listed.getD k false) hcl hin j k t tk hk ht htk (fun o' ho' => hcl k o' hf ho') hSj
        have differ : ∀ (k : Nat) tk, tr[k]? = some tk → listed.getD (0 + k) false ≠ decide (0 + k < 0 + j) → (∀ x, tk.dst = some x → x ∉ t.L) ∧ (∀ x ∈ keysOf tk.u, x ∉ t.rd) := fun k tk htk hne => by
          simp only [Nat.zero_add] at hne
          rcases Nat.lt_trichotomy k j with hk | hk | hk
          · have hf : listed.getD k false = false := by
              cases e : listed.getD k false
              · rfl
              · rw [e] at hne; simp [hk] at hne
            obtain ⟨_, b1, _, b3, _⟩ := before k tk hk htk hf
            exact ⟨b1, b3⟩
          · subst hk; rw [hSj] at hne; simp at hne
          · have hf : listed.getD k false = true := by
              cases e : listed.getD k false
              · rw [e] at hne; simp at hne; omega
              · rfl
            obtain ⟨_, _, b2, _, b4⟩ := after k tk hk htk hf
            exact ⟨b2, b4⟩
        have hstep := hdo (runS (fun k => listed.getD k false) 0 tr (get Γ, H)).1 (runS (fun k => listed.getD k false) 0 tr (get Γ, H)).2 I β a w (wpAny P .any ops Q fuel (listed.setIfInBounds j true)) Q
          (fun x hx => runS_slot rfl fun k tk htk hne hd => (differ k tk htk hne).1 x hd hx)
          (fun i hi => runS_obj rfl rfl fun k tk htk hne hk => (differ k tk htk hne).2 i hk hi)
          (by rw [runS_len, runS_len]) hsim.h hsim.slot (fun s hs => hfree j t s ht hs hSj) (fun v I' β' w' hH' hr' hevo hfr => by
            have hS' : (fun k => (listed.setIfInBounds j true).getD k false) = fun k => listed.getD k false || k == 0 + j := by
              funext k
              rw [Nat.zero_add]
              by_cases hkj : k = j
              · subst hkj
                simp [hsz, hjl]
              · rw [getD_set_ne false (fun e => hkj e.symm)]
                have : (k == j) = false := by simpa using hkj
                rw [this, Bool.or_false]
            have hrun := runS_insert (S := fun k => listed.getD k false) (t := t) (l := tr) (i := 0) (j := j) (s := (get Γ, H)) ht (by simpa using hSj) (fun k tk hk htk hf => (after k tk hk htk (by simpa using hf)).1)
            refine ih _ _ w' I' β' (by simpa using hsz) ?_ ?_ ?_ ?_
            · intro k o' hk ho' e he hb
              have hk : (listed.setIfInBounds j true).getD k false = true := hk
              show (listed.setIfInBounds j true).getD e.on false = true
              by_cases hkj : k = j
              · subst hkj; exact getD_set_true (hpj o' ho' e he hb)
              · rw [getD_set_ne false (fun e => hkj e.symm)] at hk
                exact getD_set_true (hcl k o' hk ho' e he hb)
            · have := cntF_lt (f := fun k => !listed.getD k false) (g := fun k => !(listed.setIfInBounds j true).getD k false) (j := j) (m := ops.size) (fun k _ hk => by
                simp only [Bool.not_eq_true'] at hk ⊢
                cases e : listed.getD k false
                · rfl
                · rw [getD_set_true e] at hk; cases hk) hjl (by simp only [hSj]; rfl) (by simp [hsz, hjl])
              omega
            · rw [hS', hrun]
              simp only [Tr.step, htd]
              exact hsim.put hdn hH' hr' hevo (fun s h1 h2 => by omega)
            · intro k tk s hk hsite hf
              have hkj : k ≠ j := fun e => by subst e; simp [hsz, hjl] at hf
              rw [getD_set_ne false (fun e => hkj e.symm)] at hf
              exact hfr s (hfree k tk s hk hsite hf) (fun e => hkj (huniq k j tk t s hk ht hsite e)))
        unfold wpOp
        simp only [ho]
        split
        · rename_i hw; rw [if_pos hw] at hstep; exact .inl hstep
        · rename_i hw; rw [if_neg hw] at hstep; exact hstep
  refine wp_region_any hm ?_
  obtain ⟨I, β, hs⟩ := hs.drew
  have h0 : ∀ k, (Array.replicate ops.size false).getD k false = false := fun k => by
    by_cases hk : k < ops.size <;> simp [hk]
  refine main ops.size _ a w.drew I β (by simp) (fun j o hj => by
    have hj : (Array.replicate ops.size false).getD j false = true := hj
    rw [h0] at hj; cases hj) ?_ ?_ (fun k t s hk hsite _ => ?_)
  · have : ∀ (m : Nat) (f : Nat → Bool), cntF f m ≤ m := fun m f => by
      induction m with
      | zero => exact Nat.le_refl _
      | succ m ih => simp only [cntF]; cases f m <;> simp only [cond_true, cond_false] <;> omega
    exact this _ _
  · rw [runS_none fun k _ => h0 k]
    exact ⟨hs.h, hs.defers, hs.size, hs.slot, hs.evo, fun s h1 h2 => by omega⟩
  · have := hsites k t s hk hsite
    exact hs.free s this.1 this.2

end
end Go.Cw
