/-
  Cw, part W: other numbers for the objects; statements that do not draw; code.
-/
import Derived.Test.YtlhakdmenohdnaaCwX
import Derived.LoopN
import Derived.Scope
namespace Go.Cw
set_option linter.unusedVariables false
section
variable {P : Program} {T : Tab} {n nh : Nat}

theorem kept_spec {H : Heap} {d : Nat} {rn : List Nat} : ∀ {ids : List Nat} {Hc : Heap}, kept H d rn ids Hc → Hc.length = ids.length ∧ ∀ (k : Nat) o, Hc[k]? = some (some o) → ∃ i, ids[k]? = some i ∧ H[i]? = some (some (renO d rn o))
  | [], [], _ => by simp
  | [], o :: Hc, h => by cases o <;> simp [kept] at h
  | i :: l, [], h => by simp [kept] at h
  | i :: l, none :: Hc, h => by
    simp only [kept] at h
    obtain ⟨h1, h2⟩ := kept_spec h
    refine ⟨by simp [h1], fun k o hk => ?_⟩
    cases k with
    | zero => simp at hk
    | succ k => obtain ⟨i, e2, e3⟩ := h2 k o (by simpa using hk); exact ⟨i, by simpa using e2, e3⟩
  | i :: l, some o :: Hc, h => by
    simp only [kept] at h
    obtain ⟨h1, h2⟩ := kept_spec h.2
    refine ⟨by simp [h1], fun k o' hk => ?_⟩
    cases k with
    | zero => simp at hk; subst hk; exact ⟨i, rfl, h.1⟩
    | succ k => obtain ⟨i, e2, e3⟩ := h2 k o' (by simpa using hk); exact ⟨i, by simpa using e2, e3⟩

/-- Where the objects of the other numbers lie. -/
def renB (β : Beta) (rn : List Nat) : Beta := rn.map fun i => (β[i]?).getD none

theorem renB_get {β : Beta} {rn : List Nat} (k : Nat) (b : Nat × Nat) : (renB β rn)[k]? = some (some b) ↔ ∃ i, rn[k]? = some i ∧ β[i]? = some (some b) := by
  simp only [renB, List.getElem?_map, Option.map_eq_some_iff]
  constructor
  · rintro ⟨i, hi, h⟩
    refine ⟨i, hi, ?_⟩
    cases hb : β[i]? with
    | none => simp [hb] at h
    | some x => simp [hb] at h; rw [h]
  · rintro ⟨i, hi, h⟩
    exact ⟨i, hi, by simp [h]⟩

theorem renB_back {I : Nat → Prop} {β : Beta} {H : Heap} {w : World} (hH : HSim I β H w) {rn : List Nat} (k : Nat) (b : Nat × Nat) (hb : β[rn.getD k H.length]? = some (some b)) : (renB β rn)[k]? = some (some b) := by
  rcases Nat.lt_or_ge k rn.length with h | h
  · rw [renB_get]
    refine ⟨rn[k], List.getElem?_eq_getElem h, ?_⟩
    simpa [List.getD, h] using hb
  · have : rn.getD k H.length = H.length := by simp [List.getD, List.getElem?_eq_none h]
    rw [this, List.getElem?_eq_none (by rw [hH.len]; exact Nat.le_refl _)] at hb
    cases hb

theorem HSim.ren {I : Nat → Prop} {β : Beta} {H Hc : Heap} {w : World} (hH : HSim I β H w) {rn : List Nat} (hd : allD rn = true) (hp : kept H H.length rn rn Hc) : HSim I (renB β rn) Hc w := by
  obtain ⟨hpl, hps⟩ := kept_spec hp
  refine ⟨by simp [renB, hpl], fun k o hk => ?_, fun k1 k2 o1 o2 b b' h1 h2 h3 h4 hbb => ?_, hH.imm, fun k b hb => ?_⟩
  · obtain ⟨i, e2, e3⟩ := hps k _ hk
    obtain ⟨b, hb, g1, g2, c, g3, g4⟩ := hH.obj i _ e3
    refine ⟨b, (renB_get k b).2 ⟨i, e2, hb⟩, renRows_wide.1 g1, g2, c, g3, fun i' j x hx => ?_⟩
    obtain ⟨v, hv, g5, g6⟩ := g4 i' j (renC H.length rn x) (by show rowCell (renRows H.length rn o.rows) i' j = _; rw [renRows_cell, hx]; rfl)
    exact ⟨v, hv, g5, ren_back (renB_back hH) rfl g6⟩
  · obtain ⟨i1, e1, b1⟩ := (renB_get k1 b).1 h3
    obtain ⟨i2, e2, b2⟩ := (renB_get k2 b').1 h4
    obtain ⟨i1', e1', l1⟩ := hps k1 _ h1
    obtain ⟨i2', e2', l2⟩ := hps k2 _ h2
    rw [e1] at e1'; injection e1' with e1'; subst e1'
    rw [e2] at e2'; injection e2' with e2'; subst e2'
    have := hH.inj i1 i2 _ _ b b' l1 l2 b1 b2 hbb
    subst this
    exact allD_spec hd k1 k2 i1 e1 e2
  · obtain ⟨i, _, h⟩ := (renB_get k b).1 hb
    exact hH.lt i b h

theorem Evo.ren {I0 I : Nat → Prop} {β0 β : Beta} {w0 w : World} (he : Evo I0 β0 w0 I β w) {rn : List Nat} (hl : β0.length ≤ nh) (ht : rn.take nh = tabl 0 nh) : Evo I0 β0 w0 I (renB β rn) w := by
  refine ⟨he.os, he.tape, he.output, he.size, fun i b hb => ?_, fun i b hb => ?_, he.keep, he.keepI, he.old, he.shape⟩
  · rw [renB_get]
    refine ⟨i, ?_, he.pre i b hb⟩
    have hlt : i < nh := Nat.lt_of_lt_of_le (List.getElem?_eq_some_iff.1 hb).1 hl
    have : (rn.take nh)[i]? = some i := by rw [ht, tabl_get, if_pos hlt]; congr 1; omega
    rwa [List.getElem?_take, if_pos hlt] at this
  · obtain ⟨j, _, h⟩ := (renB_get i b).1 hb
    exact he.fresh j b h

variable {I0 : Nat → Prop} {β0 : Beta} {w0 : World}

theorem refSlots_spec {d : Nat} {rn : List Nat} {Γ : Slots} : ∀ {sl : Slots}, refSlots d rn Γ sl → ∀ s x, get sl s = some x → get Γ s = some (renC d rn x)
  | [], _, s, x, h => by simp [get] at h
  | (k, y) :: l, hr, s, x, h => by
    simp only [refSlots] at hr
    rw [get_cons] at h
    split at h
    · rename_i hks
      subst hks
      injection h with h; subst h
      exact hr.1
    · exact refSlots_spec hr.2 s x h

theorem Sim.ref (hl : β0.length ≤ nh) {Γ : Slots} {H : Heap} {S : ASt} (hr : Ref nh Γ H S) {a : Act} {w : World} (h : SimE I0 β0 w0 n 0 0 (get Γ) H a w) : SimE I0 β0 w0 n 0 0 (get S.sl) S.hp a w := by
  obtain ⟨I, β, hs⟩ := h
  obtain ⟨rn, hd, ht, hk, hrs⟩ := hr
  exact ⟨I, renB β rn, hs.h.ren hd hk, hs.defers, hs.size, fun s x hx => ren_back (renB_back hs.h) rfl (hs.slot s _ (refSlots_spec hrs s x hx)), hs.evo.ren hl ht, fun s h1 h2 => by omega⟩

theorem Ghost.ref {Γ : Slots} {H : Heap} {S : ASt} (hr : Ref nh Γ H S) : Ghost n nh Γ H S.sl S.hp := fun _ _ _ _ _ hl h => Sim.ref hl hr h

theorem SimE.fewer {lo cnt : Nat} {g : Nat → Option AV} {H : Heap} {a : Act} {w : World} (h : SimE I0 β0 w0 n lo cnt g H a w) : SimE I0 β0 w0 n 0 0 g H a w := by
  obtain ⟨I, β, hs⟩ := h
  exact ⟨I, β, hs.h, hs.defers, hs.size, hs.slot, hs.evo, fun s h1 h2 => by omega⟩

theorem SimE.drew {lo cnt : Nat} {g : Nat → Option AV} {H : Heap} {a : Act} {w : World} (h : SimE I0 β0 w0 n lo cnt g H a w) : SimE I0 β0 w0 n lo cnt g H a w.drew := by
  obtain ⟨I, β, hs⟩ := h
  exact ⟨I, β, hs.h.drew, hs.defers, hs.size, fun s x hx => (Evo.drew I β w).mono (hs.slot s x hx), hs.evo.trans (Evo.drew I β w), hs.free⟩

theorem nones_length {α : Type} : ∀ (m : Nat), (nones (α := α) m).length = m
  | 0 => rfl
  | m + 1 => by simp [nones, nones_length m]

theorem nones_get {α : Type} : ∀ (m i : Nat), (nones (α := α) m)[i]? = if i < m then some none else none
  | 0, i => by simp [nones]
  | m + 1, 0 => by simp [nones]
  | m + 1, i + 1 => by simp only [nones, List.getElem?_cons_succ, nones_get m i]; by_cases h : i < m <;> simp [h]

/-- Room for the objects that a statement makes. -/
theorem SimE.room {g : Nat → Option AV} {H : Heap} {a : Act} {w : World} (m : Nat) (h : SimE I0 β0 w0 n 0 0 g H a w) : SimE I0 β0 w0 n H.length m g (H ++ nones m) a w := by
  obtain ⟨I, β, hs⟩ := h
  have pre : ∀ (i : Nat) b, β[i]? = some (some b) → (β ++ nones m)[i]? = some (some b) := fun i b hb => by
    rw [List.getElem?_append_left (List.getElem?_eq_some_iff.1 hb).1]; exact hb
  have back : ∀ (i : Nat) b, (β ++ nones m)[i]? = some (some b) → β[i]? = some (some b) := fun i b hb => by
    rw [List.getElem?_append] at hb
    split at hb
    · exact hb
    · rw [nones_get] at hb; split at hb <;> simp at hb
  have backH : ∀ (i : Nat) o, (H ++ nones m)[i]? = some (some o) → H[i]? = some (some o) := fun i b hb => by
    rw [List.getElem?_append] at hb
    split at hb
    · exact hb
    · rw [nones_get] at hb; split at hb <;> simp at hb
  have evo : Evo I β w I (β ++ nones m) w := ⟨rfl, rfl, rfl, Nat.le_refl _, pre, fun i b h => .inr ⟨i, b, back i b h, rfl⟩, fun _ _ _ => rfl, fun _ h => ⟨rfl, h⟩, fun _ _ h => .inl h, fun _ _ _ h => h⟩
  refine ⟨I, β ++ nones m, ⟨by simp [hs.h.len, nones_length], fun i o ho => ?_, fun i j oi oj b b' h1 h2 h3 h4 => hs.h.inj i j oi oj b b' (backH i oi h1) (backH j oj h2) (back i b h3) (back j b' h4), hs.h.imm, fun i b hb => hs.h.lt i b (back i b hb)⟩,
    hs.defers, hs.size, fun s x hx => evo.mono (hs.slot s x hx), hs.evo.trans evo, fun s h1 h2 => ?_⟩
  · obtain ⟨b, hb, hos⟩ := hs.h.obj i o (backH i o ho)
    exact ⟨b, pre i b hb, hos.mono (fun _ h => ⟨rfl, h⟩) pre (fun _ _ _ h => h) rfl (fun h => h)⟩
  · rw [List.getElem?_append_right (by rw [hs.h.len]; exact h1), nones_get, if_pos (by rw [hs.h.len]; omega)]

/-- A list of operations. -/
theorem vcOps_sound (hT : TabOk P T) {ops : Array Oper} {K : Slots → Heap → Prop} {Q : Exit → Act → World → Prop}
    (hK : ∀ Γ H a w, SimE I0 β0 w0 n 0 0 (get Γ) H a w → K Γ H → Q .normal a w) : ∀ (l : List Oper) (i lo cnt : Nat) (dc : Known) (Γ : Slots) (H : Heap) (a : Act) (w : World),
    (∀ j, l[j]? = ops[i + j]?) → allocs l ≤ cnt → KnOk dc (get Γ) → SimE I0 β0 w0 n lo cnt (get Γ) H a w → vcOps P T n ops.toList l lo K dc Γ H → wpOps P ops Q (List.range' i l.length) a w
  | [], i, lo, cnt, dc, Γ, H, a, w, hl, hc, hk, hs, h => by
    simp only [List.length_nil, List.range'_zero, wpOps]
    exact hK Γ H a w hs.fewer h
  | o :: l, i, lo, cnt, dc, Γ, H, a, w, hl, hc, hk, hs, h => by
    have hi : ops[i]? = some o := by have := hl 0; simpa using this.symm
    have hl' : ∀ j, l[j]? = ops[i + 1 + j]? := fun j => by have := hl (j + 1); simp only [List.getElem?_cons_succ] at this; rw [this]; congr 1; omega
    simp only [List.length_cons, List.range'_succ, wpOps, hi]
    obtain ⟨I, β, hs⟩ := hs
    have hstep : ∀ (lo' : Nat), (bif isAlloc o.op then lo + 1 else lo) = lo' → dstOk n o = true →
        vcGuard ops.toList Γ dc o.guard (fun dc' => knPut dc' o fun d2 => vcStep P T lo o.dst (simpOp dc' o.op) Γ H (vcOps P T n ops.toList l lo' K d2))
          (fun dc' => knSkip dc' o fun d2 => putK Γ o.dst (.pv (.val undef)) fun Γ' => vcOps P T n ops.toList l lo' K d2 Γ' H) →
        if Region.wanted o (yielded ops a.tmps) = true then o.wp P a w (wpOps P ops Q (List.range' (i + 1) l.length)) Q ∨ (o.asks P a w ∧ LetsOut Q)
          else wpOps P ops Q (List.range' (i + 1) l.length) (a.put o.dst undef) w := fun lo' hlo hd hg => by
      have hal : isAlloc o.op = true → 0 < cnt := fun e => by
        simp only [allocs, e, cond_true] at hc; omega
      have hcl : allocs l ≤ (bif isAlloc o.op then cnt - 1 else cnt) := by
        cases e : isAlloc o.op
        · simp only [allocs, e, cond_false] at hc; simpa using hc
        · simp only [allocs, e, cond_true] at hc; simp only [cond_true]; omega
      rcases vcGuard_sound rfl hk hs.slot hg with ⟨hw, dc', hk', h⟩ | ⟨hw, dc', hk', h⟩
      · rw [if_pos hw]
        obtain ⟨d2, h2, h3⟩ := knPut_spec hk' h
        refine .inl (vcStep_sound hT rfl hs hk' hd hal h2 fun r Γ' H' a' w' hr hget hK' hs' => ?_)
        rw [hlo] at hs'
        exact vcOps_sound hT hK l (i + 1) lo' _ d2 Γ' H' a' w' hl' hcl (by rw [hget]; exact h3 r hr) hs' hK'
      · rw [if_neg (by rw [hw]; exact Bool.false_ne_true)]
        obtain ⟨d2, h2, h3⟩ := knSkip_spec hk' h
        rw [putK_eq] at h2
        refine vcOps_sound hT hK l (i + 1) lo' _ d2 _ H _ w hl' hcl (by rw [get_put]; exact h3 _) ⟨I, β, ?_⟩ h2
        rw [get_put]
        refine hs.skip hd fun s h1 h2 => ?_
        cases e : isAlloc o.op
        · rw [e] at hlo h2; simp only [cond_false] at hlo h2; subst hlo; exact hs.free s h1 h2
        · rw [e] at hlo h2; simp only [cond_true] at hlo h2; subst hlo; have := hal e; exact hs.free s (by omega) (by omega)
    simp only [vcOps] at h
    split at h
    · rename_i hd ha; exact hstep (lo + 1) (by rw [ha]; rfl) hd h
    · rename_i hd ha; exact hstep lo (by rw [ha]; rfl) hd h
    · exact h.elim

/-- What a statement that draws must show (part POR). -/
def DrawsOk (P : Program) (T : Tab) (n : Nat) (I0 : Nat → Prop) (β0 : Beta) (w0 : World) : Prop :=
  ∀ (id : Nat) (ops : Array Oper) (K : Slots → Heap → Prop) (Q : Exit → Act → World → Prop) (lo : Nat) (Γ : Slots) (H : Heap) (a : Act) (w : World),
    (∀ Γ H a w, SimE I0 β0 w0 n 0 0 (get Γ) H a w → K Γ H → Q .normal a w) → SimE I0 β0 w0 n lo (allocs ops.toList) (get Γ) H a w →
    vcOpsD P T n ops.toList ops.toList lo (fun fs Γ' H' => drawOk ops fs.reverse = true ∧ K Γ' H') [] [] Γ H → (Code.region id ops true).wp P Q a w

theorem knOk_nil (g : Nat → Option AV) : KnOk [] g := fun s b h => by simp [kn] at h

theorem without_mem {j k : Nat} : ∀ {l : List Nat}, k ∈ without j l ↔ k ∈ l ∧ k ≠ j
  | [] => by simp [without]
  | x :: l => by
    simp only [without]
    cases hb : Nat.beq x j
    · have hne : x ≠ j := fun e => by subst e; simp at hb
      simp only [cond_false, List.mem_cons, without_mem (l := l)]
      constructor
      · rintro (rfl | h)
        · exact ⟨.inl rfl, hne⟩
        · exact ⟨.inr h.1, h.2⟩
      · rintro ⟨rfl | h, h2⟩
        · exact .inl rfl
        · exact .inr ⟨h, h2⟩
    · have he := Nat.eq_of_beq_eq_true hb
      simp only [cond_true, List.mem_cons, without_mem (l := l)]
      subst he
      constructor
      · rintro ⟨h1, h2⟩; exact ⟨.inr h1, h2⟩
      · rintro ⟨h1 | h1, h2⟩
        · exact absurd h1 h2
        · exact ⟨h1, h2⟩

theorem hasN_iff {j : Nat} : ∀ {l : List Nat}, hasN j l = true ↔ j ∈ l
  | [] => by simp [hasN]
  | x :: l => by
    simp only [hasN]
    cases hb : Nat.beq x j
    · have hne : ¬ j = x := fun e => by subst e; simp at hb
      simp [hasN_iff (l := l), hne]
    · have := Nat.eq_of_beq_eq_true hb
      simp [this]

def allocsIn (ops : Array Oper) : List Nat → Nat
  | [] => 0
  | j :: l => (match ops[j]? with
    | some o => bif isAlloc o.op then 1 else 0
    | none => 0) + allocsIn ops l

theorem allocsIn_without {ops : Array Oper} {j : Nat} : ∀ {l : List Nat}, j ∈ l → allocsIn ops (without j l) + (match ops[j]? with
    | some o => bif isAlloc o.op then 1 else 0
    | none => 0) ≤ allocsIn ops l
  | [], h => by simp at h
  | x :: l, h => by
    have le : ∀ l : List Nat, allocsIn ops (without j l) ≤ allocsIn ops l := fun l => by
      induction l with
      | nil => simp [without, allocsIn]
      | cons y l ih =>
        simp only [without]
        cases Nat.beq y j
        · simp only [cond_false, allocsIn]; omega
        · simp only [cond_true, allocsIn]; omega
    simp only [without]
    cases hb : Nat.beq x j
    · simp only [cond_false, allocsIn]
      have hne : ¬ j = x := fun e => by subst e; simp at hb
      have := allocsIn_without (ops := ops) (l := l) (by simpa [hne] using h)
      omega
    · have := Nat.eq_of_beq_eq_true hb
      subst this
      simp only [cond_true, allocsIn]
      have := le l
      omega

theorem eachReady_spec {ops : Array Oper} {rem : List Nat} {F : Nat → Prop} : ∀ {l : List Nat}, eachReady ops rem F l → ∀ j ∈ l, readyIn ops rem j = true → F j
  | [], _, j, hj, _ => by simp at hj
  | x :: l, h, j, hj, hr => by
    simp only [eachReady] at h
    rcases List.mem_cons.1 hj with rfl | hj
    · rw [hr] at h; exact h.1
    · split at h
      · exact eachReady_spec h.2 j hj hr
      · exact eachReady_spec h j hj hr

theorem vcAny_sound (hT : TabOk P T) {ops : Array Oper} {K : Slots → Heap → Prop} {Q : Exit → Act → World → Prop}
    (hK : ∀ Γ H a w, SimE I0 β0 w0 n 0 0 (get Γ) H a w → K Γ H → Q .normal a w) : ∀ (fuel : Nat) (rem : List Nat) (lo cnt : Nat) (Γ : Slots) (H : Heap) (a : Act) (w : World) (listed : Array Bool),
    listed.size = ops.size → (∀ k, k < ops.size → (listed.getD k false = true ↔ k ∉ rem)) → (∀ k ∈ rem, k < ops.size) → allocsIn ops rem ≤ cnt → SimE I0 β0 w0 n lo cnt (get Γ) H a w → vcAny P T n ops fuel rem lo K Γ H → wpAny P .any ops Q fuel listed a w := by
  intro fuel
  have none_ready : ∀ (listed : Array Bool), listed.size = ops.size → (∀ k, k < ops.size → (listed.getD k false = true ↔ k ∉ ([] : List Nat))) → Region.ready .any ops listed = [] := fun listed hsz hl => by
    apply List.eq_nil_iff_forall_not_mem.2
    intro j hj
    obtain ⟨h1, o, ho, _⟩ := mem_ready.1 hj
    have hjl := (Array.getElem?_eq_some_iff.1 ho).1
    have h2 := (hl j hjl).2 (by simp)
    simp [hsz, hjl] at h1 h2
    rw [h1] at h2; cases h2
  induction fuel with
  | zero =>
    intro rem lo cnt Γ H a w listed hsz hl hr hc hs h
    cases rem with
    | nil =>
      simp only [vcAny] at h
      exact ⟨none_ready listed hsz hl, hK Γ H a w hs.fewer h⟩
    | cons j rem => exact h.elim
  | succ fuel ih =>
    intro rem lo cnt Γ H a w listed hsz hl hr hc hs h
    have rdy : ∀ j, j ∈ Region.ready .any ops listed → j ∈ rem ∧ readyIn ops rem j = true := fun j hj => by
      obtain ⟨h1, o, ho, hpre⟩ := mem_ready.1 hj
      have hjl := (Array.getElem?_eq_some_iff.1 ho).1
      have hjr : j ∈ rem := by
        rcases Classical.em (j ∈ rem) with h | h
        · exact h
        · have := (hl j hjl).2 h
          simp [hsz, hjl] at h1 this
          rw [h1] at this; cases this
      refine ⟨hjr, ?_⟩
      simp only [readyIn, ho, List.all_eq_true]
      intro e he
      cases hb : Region.binds .any e
      · rfl
      · have h3 := hpre e (by simpa using he) hb
        have hlt : e.on < ops.size := by
          rcases Nat.lt_or_ge e.on ops.size with h | h
          · exact h
          · simp [Array.getElem?_eq_none (by omega : listed.size ≤ e.on)] at h3
        have hblt : Nat.blt e.on ops.size = true := by rw [Nat.blt_eq]; exact hlt
        cases hh : hasN e.on rem
        · rw [hblt]; rfl
        · have hm := hasN_iff.1 hh
          have := (hl e.on (hr _ hm)).1 h3
          exact absurd hm this
    cases rem with
    | nil =>
      simp only [vcAny] at h
      have h0 := none_ready listed hsz hl
      refine ⟨fun _ => hK Γ H a w hs.fewer h, fun j hj => ?_⟩
      rw [h0] at hj; cases hj
    | cons j0 rem0 =>
      simp only [vcAny] at h
      generalize hrem : j0 :: rem0 = rem at *
      split at h
      case h_2 => exact h.elim
      rename_i hany
      refine ⟨fun h0 => ?_, fun j hj => ?_⟩
      · exfalso
        obtain ⟨j, hjr, hjd⟩ := List.any_eq_true.1 hany
        have hjl := hr j hjr
        have : j ∈ Region.ready .any ops listed := by
          refine mem_ready.2 ⟨?_, ops[j], Array.getElem?_eq_getElem hjl, fun e he hb => ?_⟩
          · have : ¬ (listed.getD j false = true) := fun e => (hl j hjl).1 e hjr
            simp [hsz, hjl] at this ⊢; exact this
          · simp only [readyIn, Array.getElem?_eq_getElem hjl, List.all_eq_true] at hjd
            have := hjd e (by simpa using he)
            rw [hb] at this
            simp only [Bool.not_true, Bool.false_or, Bool.and_eq_true, Bool.not_eq_true', Nat.blt_eq] at this
            have hnm : e.on ∉ rem := fun hm => by rw [hasN_iff.2 hm] at this; cases this.2
            exact (hl _ this.1).2 hnm
        rw [h0] at this; cases this
      · obtain ⟨hjr, hjd⟩ := rdy j hj
        have hjl := hr j hjr
        have hstep := eachReady_spec h j hjr hjd
        have ho : ops[j]? = some ops[j] := Array.getElem?_eq_getElem hjl
        simp only [ho] at hstep
        obtain ⟨I, β, hs'⟩ := hs
        have hl' : ∀ k, k < ops.size → ((listed.setIfInBounds j true).getD k false = true ↔ k ∉ without j rem) := fun k hk => by
          rw [without_mem]
          by_cases hkj : k = j
          · subst hkj; simp [hsz, hk]
          · have : (listed.setIfInBounds j true).getD k false = listed.getD k false := by simp [Array.getElem?_setIfInBounds_ne (fun e => hkj e.symm)]
            rw [this, hl k hk]; simp [hkj]
        have hcw := allocsIn_without (ops := ops) hjr
        simp only [ho] at hcw
        have go : ∀ lo', (bif isAlloc ops[j].op then lo + 1 else lo) = lo' → dstOk n ops[j] = true → vcGuard ops.toList Γ [] ops[j].guard (fun _ => vcStep P T lo ops[j].dst (simpOp [] ops[j].op) Γ H (vcAny P T n ops fuel (without j rem) lo' K))
            (fun _ => putK Γ ops[j].dst (.pv (.val undef)) fun Γ' => vcAny P T n ops fuel (without j rem) lo' K Γ' H) → wpOp P ops Q j (wpAny P .any ops Q fuel (listed.setIfInBounds j true)) a w := fun lo' hlo hd hg => by
          have hal : isAlloc ops[j].op = true → 0 < cnt := fun e => by rw [e] at hcw; simp only [cond_true] at hcw; omega
          unfold wpOp
          simp only [ho]
          rcases vcGuard_sound rfl (knOk_nil _) hs'.slot hg with ⟨hw, dc', hk', h⟩ | ⟨hw, dc', hk', h⟩
          · rw [if_pos hw]
            refine .inl (vcStep_sound (dc := []) hT rfl hs' (knOk_nil _) hd hal h fun r Γ' H' a' w' hr' hget hK' hs2 => ?_)
            rw [hlo] at hs2
            exact ih (without j rem) lo' _ Γ' H' a' w' _ (by simpa using hsz) hl' (fun k hk => hr k (without_mem.1 hk).1) (by
              cases e : isAlloc ops[j].op <;> rw [e] at hcw <;> simp only [cond_true, cond_false] at hcw ⊢ <;> omega) hs2 hK'
          · rw [if_neg (by rw [hw]; exact Bool.false_ne_true)]
            rw [putK_eq] at h
            refine ih (without j rem) lo' (bif isAlloc ops[j].op then cnt - 1 else cnt) _ H _ w _ (by simpa using hsz) hl' (fun k hk => hr k (without_mem.1 hk).1) (by
              cases e : isAlloc ops[j].op <;> rw [e] at hcw <;> simp only [cond_true, cond_false] at hcw ⊢ <;> omega) ⟨I, β, ?_⟩ h
            rw [get_put]
            refine hs'.skip hd fun s h1 h2 => ?_
            cases e : isAlloc ops[j].op
            · rw [e] at hlo h2; simp only [cond_false] at hlo h2; subst hlo; exact hs'.free s h1 h2
            · rw [e] at hlo h2; simp only [cond_true] at hlo h2; subst hlo; have := hal e; exact hs'.free s (by omega) (by omega)
        split at hstep
        · rename_i hd ha; exact go (lo + 1) (by rw [ha]; rfl) hd hstep
        · rename_i hd ha; exact go lo (by rw [ha]; rfl) hd hstep
        · exact hstep.elim

theorem vcRegion_sound (hT : TabOk P T) (hD : DrawsOk P T n I0 β0 w0) {id : Nat} {ops : Array Oper} {draw : Bool} {K : Slots → Heap → Prop} {Q : Exit → Act → World → Prop}
    (hK : ∀ Γ H a w, SimE I0 β0 w0 n 0 0 (get Γ) H a w → K Γ H → Q .normal a w) {Γ : Slots} {H : Heap} {a : Act} {w : World} (hs : SimE I0 β0 w0 n 0 0 (get Γ) H a w) (h : vcRegion P T n ops draw K Γ H) :
    (Code.region id ops draw).wp P Q a w := by
  unfold vcRegion at h
  split at h
  · have base : ∀ (lo : Nat) (H' : Heap), SimE I0 β0 w0 n lo (allocs ops.toList) (get Γ) H' a w → vcOps P T n ops.toList ops.toList lo K [] Γ H' → (Code.region id ops false).wp P Q a w := fun lo H' hs' h' => by
      refine wp_region ?_
      rw [List.range_eq_range', ← Array.length_toList]
      exact vcOps_sound hT hK ops.toList 0 lo _ [] Γ H' a w (fun j => by simp) (Nat.le_refl _) (knOk_nil _) hs' h'
    split at h
    · rename_i h0
      exact base 0 H (by rw [h0]; exact hs) h
    · rename_i m h0
      rw [lenK_eq, forceH_eq] at h
      refine base H.length _ ?_ (by simpa using h)
      rw [h0]; exact hs.room (m + 1)
  · split at h
    · rename_i h0
      exact hD id ops K Q 0 Γ H a w hK (by rw [h0]; exact hs) h
    · rename_i m h0
      rw [lenK_eq, forceH_eq] at h
      refine hD id ops K Q H.length Γ _ a w hK ?_ (by simpa using h)
      rw [h0]; exact hs.room (m + 1)

theorem nat_min {p : Nat → Prop} (h : ∃ m, p m) : ∃ m, p m ∧ ∀ k, p k → m ≤ k := by
  obtain ⟨m, hm⟩ := h
  induction m using Nat.strongRecOn with
  | _ m ih =>
    by_cases hk : ∃ k, k < m ∧ p k
    · obtain ⟨k, hlt, hp⟩ := hk; exact ih k hlt hp
    · exact ⟨m, hm, fun k hp => by
        rcases Nat.lt_or_ge k m with h | h
        · exact absurd ⟨k, h, hp⟩ hk
        · exact h⟩

open Classical in
noncomputable def least (p : Nat → Prop) : Nat := if h : ∃ m, p m then Classical.choose (nat_min h) else 0
theorem least_is {p : Nat → Prop} (h : ∃ m, p m) : p (least p) := by
  unfold least; rw [dif_pos h]; exact (Classical.choose_spec (nat_min h)).1
theorem least_le {p : Nat → Prop} {k : Nat} (h : p k) : least p ≤ k := by
  unfold least; rw [dif_pos ⟨k, h⟩]; exact (Classical.choose_spec (nat_min ⟨k, h⟩)).2 k h

theorem allocsIn_range {ops : Array Oper} : ∀ (l : List Oper) (k : Nat), (∀ j, l[j]? = ops[k + j]?) → allocsIn ops (List.range' k l.length) = allocs l
  | [], k, _ => rfl
  | o :: l, k, h => by
    have h0 : ops[k]? = some o := by have := h 0; simpa using this.symm
    have ih := allocsIn_range (ops := ops) l (k + 1) (fun j => by have := h (j + 1); simp only [List.getElem?_cons_succ] at this; rw [this]; congr 1; omega)
    simp only [List.length_cons, List.range'_succ, allocsIn, h0, allocs, ih]
    cases isAlloc o.op <;> simp only [cond_true, cond_false] <;> omega

theorem vcRegionAny_sound (hT : TabOk P T) (hm : P.follows .mixedOrders = true) {id : Nat} {ops : Array Oper} {K : Slots → Heap → Prop} {Q : Exit → Act → World → Prop}
    (hK : ∀ Γ H a w, SimE I0 β0 w0 n 0 0 (get Γ) H a w → K Γ H → Q .normal a w) {Γ : Slots} {H : Heap} {a : Act} {w : World} (hs : SimE I0 β0 w0 n 0 0 (get Γ) H a w) (h : vcRegionAny P T n ops K Γ H) :
    (Code.region id ops true).wp P Q a w := by
  refine wp_region_any hm ?_
  have hs := hs.drew
  have key : ∀ (lo : Nat) (H' : Heap), SimE I0 β0 w0 n lo (allocs ops.toList) (get Γ) H' a w.drew → vcAny P T n ops ops.size (List.range ops.size) lo K Γ H' → wpAny P .any ops Q ops.size (Array.replicate ops.size false) a w.drew := fun lo H' hs' h' =>
    vcAny_sound hT hK ops.size (List.range ops.size) lo _ Γ H' a w.drew _ (by simp) (fun k hk => by simp [hk]) (fun k hk => by simpa using hk) (by
      have := allocsIn_range (ops := ops) ops.toList 0 (fun j => by simp)
      rw [List.range_eq_range', ← Array.length_toList, this]; exact Nat.le_refl _) hs' h'
  unfold vcRegionAny at h
  split at h
  · rename_i h0
    exact key 0 H (by rw [h0]; exact hs) h
  · rename_i m h0
    rw [lenK_eq, forceH_eq] at h
    refine key H.length _ ?_ (by simpa using h)
    rw [h0]; exact hs.room (m + 1)

theorem vcCode_sound (hT : TabOk P T) (hm : P.follows .mixedOrders = true) (hD : DrawsOk P T n I0 β0 w0) (hl : β0.length ≤ nh) : ∀ (c : Code) (Q : Exit → Slots → Heap → Prop) (Q' : Exit → Act → World → Prop) (Γ : Slots) (H : Heap) (a : Act) (w : World),
    (∀ e Γ H a w, SimE I0 β0 w0 n 0 0 (get Γ) H a w → Q e Γ H → Q' e a w) → SimE I0 β0 w0 n 0 0 (get Γ) H a w → vcCode P T n nh c Q Γ H → c.wp P Q' a w := by
  intro c
  induction c with
  | skip => intro Q Q' Γ H a w hQ hs h; exact wp_skip (hQ _ _ _ _ _ hs h)
  | label l => intro Q Q' Γ H a w hQ hs h; exact wp_label (hQ _ _ _ _ _ hs h)
  | region id ops draw =>
    intro Q Q' Γ H a w hQ hs h
    obtain ⟨Γ, H, hg, h⟩ := h
    replace hs := hg _ _ _ _ _ hl hs
    rcases h with h | ⟨rfl, h⟩
    · exact vcRegion_sound hT hD (fun Γ H a w => hQ .normal Γ H a w) hs h
    · exact vcRegionAny_sound hT hm (fun Γ H a w => hQ .normal Γ H a w) hs h
  | seq x y ihx ihy =>
    intro Q Q' Γ H a w hQ hs h
    obtain ⟨Γ, H, hg, h⟩ := h
    replace hs := hg _ _ _ _ _ hl hs
    refine wp_seq (ihx _ _ Γ H a w (fun e Γ H a w hs hq => ?_) hs h)
    cases e <;> simp only [thenQ] at hq <;> simp only [Exit.then]
    case normal => exact ihy Q Q' Γ H a w hQ hs hq
    all_goals exact hQ _ _ _ _ _ hs hq
  | cond c x y ihx ihy =>
    intro Q Q' Γ H a w hQ hs h
    obtain ⟨Γ, H, hg, h⟩ := h
    replace hs := hg _ _ _ _ _ hl hs
    simp only [ev_eq] at h
    split at h
    · rename_i b hb
      obtain ⟨I, β, hs'⟩ := hs
      have hv := val_inv (evF_sound hs'.slot hb)
      exact wp_cond_split hv (fun e => ihx Q Q' Γ H a w hQ ⟨I, β, hs'⟩ (h.1 e)) (fun e => ihy Q Q' Γ H a w hQ ⟨I, β, hs'⟩ (h.2 e))
    · exact h.elim
  | block id c ih =>
    intro Q Q' Γ H a w hQ hs h
    obtain ⟨Γ, H, hg, h⟩ := h
    replace hs := hg _ _ _ _ _ hl hs
    refine wp_block (ih _ _ Γ H a w (fun e Γ H a w hs hq => ?_) hs h)
    cases e <;> simp only [inBlockQ] at hq <;> simp only [Exit.inBlock]
    case exit id' =>
      cases hb : Nat.beq id' id
      · rw [hb] at hq
        have : ¬ id' = id := fun e => by subst e; simp at hb
        rw [if_neg this]; exact hQ _ _ _ _ _ hs hq
      · rw [hb] at hq
        rw [if_pos (Nat.eq_of_beq_eq_true hb)]; exact hQ _ _ _ _ _ hs hq
    all_goals exact hQ _ _ _ _ _ hs hq
  | loop c ih =>
    intro Q Q' Γ H a w hQ hs h
    obtain ⟨Γ, H, hg, h⟩ := h
    replace hs := hg _ _ _ _ _ hl hs
    rcases h with h | ⟨m, h⟩
    case inr =>
      refine wp_loop_rounds m ?_
      clear hg
      induction m generalizing Γ H a w with
      | zero => exact h.elim
      | succ m ihm =>
        simp only [rounds] at h
        rw [rounds_succ]
        refine ih _ _ Γ H a w (fun e Γ H a w hs hq => ?_) hs h
        cases e <;> simp only [thenQ] at hq <;> simp only [Exit.then]
        case normal => exact ihm _ _ _ _ hs hq
        all_goals exact hQ _ _ _ _ _ hs hq
    obtain ⟨X, J, cond, μ, ⟨x0, hc0, hr0⟩, h⟩ := h
    let p : Act → World → Nat → Prop := fun a w m => ∃ x, cond x ∧ μ x = m ∧ SimE I0 β0 w0 n 0 0 (get (J x).sl) (J x).hp a w
    refine wp_loop (fun a w => ∃ m, p a w m) (fun a w => least (p a w)) ⟨_, x0, hc0, rfl, Sim.ref hl hr0 hs⟩ (fun a w hI => ?_)
    obtain ⟨x, hc, hm, hs'⟩ := least_is hI
    refine ih _ _ _ _ a w (fun e Γ H a' w' hs'' hq => ?_) hs' (h x hc)
    cases e <;> simp only [thenQ] at hq <;> simp only [Exit.then]
    case normal =>
      obtain ⟨x', hc', hlt, hr'⟩ := hq
      have hp : p a' w' (μ x') := ⟨x', hc', rfl, Sim.ref hl hr' hs''⟩
      exact ⟨⟨_, hp⟩, Nat.lt_of_le_of_lt (least_le hp) (by rw [← hm]; exact hlt)⟩
    all_goals exact hQ _ _ _ _ _ hs'' hq
  | scope c ih =>
    intro Q Q' Γ H a w hQ hs h
    obtain ⟨Γ, H, hg, h⟩ := h
    replace hs := hg _ _ _ _ _ hl hs
    refine wp_scope_straight (ih _ _ Γ H a w (fun e Γ H a w hs hq => ?_) hs h)
    cases e <;> simp only [noGotoQ] at hq <;> simp only [Exit.noGoto]
    all_goals exact hQ _ _ _ _ _ hs hq
  | exit id => intro Q Q' Γ H a w hQ hs h; exact wp_exit (hQ _ _ _ _ _ hs h)
  | ret =>
    intro Q Q' Γ H a w hQ hs h
    obtain ⟨Γ, H, hg, h⟩ := h
    exact wp_ret (hQ _ _ _ _ _ (hg _ _ _ _ _ hl hs) h)
  | _ => intros; rename_i h; exact absurd h (by simp [vcCode])

end
end Go.Cw
