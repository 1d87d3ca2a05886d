/-
  Cw, part U: a call of a function by its contract.
-/
import Derived.Test.YtlhakdmenohdnaaCwS
namespace Go.Cw
set_option linter.unusedVariables false
section
variable {P : Program} {T : Tab} {I J : Nat → Prop} {β : Beta} {w : World} {H : Heap}

/-- What a call leaves to the caller. -/
def CallsOut (P : Program) (I : Nat → Prop) (β : Beta) (w : World) (f : FuncId) (vals : Array Value) (K : AV → Heap → Prop) : Prop :=
  Calls P f vals w fun e w' => ∃ r H2 I' β' v, e = .returned v ∧ K r H2 ∧ HSim I' β' H2 w' ∧ ARel I' β' w' r v ∧ Evo I β w I' β' w' ∧ ∀ s : Nat, β[s]? = some none → β'[s]? = some none

theorem ids1_live {x : AV} {id : Nat} (h : id ∈ ids1 H x) : ∃ o, H[id]? = some (some o) := by
  have h0 : ∀ {y : AV}, id ∈ ids0 H y → ∃ o, H[id]? = some (some o) := fun {y} hy => by
    cases y with
    | agg cs =>
      simp only [ids0, List.mem_flatMap] at hy
      obtain ⟨x, _, hy⟩ := hy
      exact idsC_live 5 x id hy
    | _ => exact idsC_live 5 _ id hy
  cases x with
  | tup vs =>
    simp only [ids1, List.mem_flatMap] at h
    obtain ⟨x, _, h⟩ := h
    exact h0 h
  | _ => simp only [ids1] at h; exact h0 h

theorem keep_all {I' : Nat → Prop} {β' : Beta} {w' : World} (h : Evo J [] w I' β' w') : ∀ b, b < w.heap.size → w'.heap[b]? = w.heap[b]? := fun b hb => h.keep b hb (fun i => by simp)

theorem pure_call (hH : HSim I β H w) {f : FuncId} {args as as0 : List AV} {vals : Array Value} (hl : vals.size = args.length) (hargs : ∀ (j : Nat) c, args[j]? = some c → ARel I β w c (vals.getD j undef))
    (hc : mapO (conv H) args = some as0) (hok : andL (ok1 H) args) (he : as = as0) {Post : AV → Prop} (hp : PCall P f as Post) {K : AV → Heap → Prop}
    (hK : ∀ r, Post r → (scal r = true ∧ K r H) ∨ K r (app H (frz H (args.flatMap (ids1 H))))) : Enterable P f ∧ CallsOut P I β w f vals K := by
  subst he
  obtain ⟨hent, hp⟩ := hp
  refine ⟨hent, ?_⟩
  let ids := args.flatMap (ids1 H)
  let J : Nat → Prop := fun b => I b ∨ ∃ id ∈ ids, ∃ c, β[id]? = some (some c) ∧ c.1 = b
  have hIJ : ∀ b, I b → J b := fun b h => .inl h
  have hJlt : ∀ b, J b → b < w.heap.size := fun b h => by
    rcases h with h | ⟨id, _, c, h, rfl⟩
    · exact hH.imm b h
    · exact hH.lt id c h
  obtain ⟨hl2, hm⟩ := mapO_spec hc
  have hcall := hp J [] w vals ⟨rfl, fun i o h => by simp at h, fun i j oi oj b b' h => by simp at h, hJlt, fun i b h => by simp at h⟩ (by omega) (fun j c hj => by
    obtain ⟨x, hx, hxc⟩ := hm j c hj
    have hmem : x ∈ args := List.mem_of_getElem? hx
    exact conv_sound hH hIJ hxc (andL_mem ok1_pv hok x hmem) (hargs j x hx) (fun id hid b hb => .inr ⟨id, List.mem_flatMap.2 ⟨x, hmem, hid⟩, b, hb, rfl⟩))
  refine hcall.mono fun e w' h => ?_
  obtain ⟨r, H', I', β', v, he, ⟨rfl, hpost⟩, hH', hr, hevo⟩ := h
  have hβ' : β' = [] := List.eq_nil_of_length_eq_zero hH'.len
  subst hβ'
  have hsame := keep_all hevo
  have hpre : ∀ (i : Nat) b, β[i]? = some (some b) → β[i]? = some (some b) := fun _ _ h => h
  rcases hK r hpost with ⟨hs, hk⟩ | hk
  · have hkI : ∀ b, I b → w'.heap[b]? = w.heap[b]? ∧ I b := fun b hb => ⟨hsame b (hH.imm b hb), hb⟩
    refine ⟨r, H, I, β, v, he, hk, ⟨hH.len, fun i o ho => ?_, hH.inj, fun b hb => Nat.lt_of_lt_of_le (hH.imm b hb) hevo.size, fun i b hb => Nat.lt_of_lt_of_le (hH.lt i b hb) hevo.size⟩, scal_sound hs hr,
      ⟨hevo.os, hevo.tape, hevo.output, hevo.size, hpre, fun i b hb => .inr ⟨i, b, hb, rfl⟩, fun b hb _ => hsame b hb, hkI, fun b _ h => .inl h, hevo.shape⟩, fun s h => h⟩
    obtain ⟨b, hb, hos⟩ := hH.obj i o ho
    exact ⟨b, hb, hos.mono hkI hpre hevo.shape (hsame b.1 (hH.lt i b hb)) (fun h => h)⟩
  · have hkI : ∀ b, I b → w'.heap[b]? = w.heap[b]? ∧ I' b := fun b hb => hevo.keepI b (.inl hb)
    have hget := frz_get ids H H (fun i ⟨o, ho⟩ => ⟨o, ho, .inl ho⟩)
    refine ⟨r, _, I', β, v, he, hk, ⟨by rw [app_length]; exact hH.len, fun i o2 ho2 => ?_, fun i j oi oj b b' hi hj hbi hbj hbb => ?_, hH'.imm, fun i b hb => Nat.lt_of_lt_of_le (hH.lt i b hb) hevo.size⟩,
      hr.mono (fun b h => ⟨rfl, h⟩) (fun i b h => by simp at h) (fun _ _ _ h => h), ⟨hevo.os, hevo.tape, hevo.output, hevo.size, hpre, fun i b hb => .inr ⟨i, b, hb, rfl⟩, fun b hb _ => hsame b hb, hkI, fun b hb hI => ?_, hevo.shape⟩, fun s h => h⟩
    · rw [hget i] at ho2
      cases hHi : H[i]? with
      | none => simp [hHi] at ho2
      | some oo =>
        cases oo with
        | none => simp [hHi] at ho2
        | some o =>
          obtain ⟨b, hb, h1, h2, c, h3, h4⟩ := hH.obj i o hHi
          refine ⟨b, hb, ?_⟩
          simp only [hHi] at ho2
          have hcells : ∀ i j x, rowCell o.rows i j = some x → ∃ v, c[(i + b.2) * o.z + j]? = some v ∧ v.oneCell' = true ∧ ARel I' β w' x v := fun i j x hx => by
            obtain ⟨v, hv, h5, h6⟩ := h4 i j x hx
            exact ⟨v, hv, h5, h6.mono hkI hpre hevo.shape⟩
          have hblk := (hsame b.1 (hH.lt i b hb)).trans h3
          by_cases hi : i ∈ ids
          · rw [if_pos hi] at ho2
            injection ho2 with ho2; injection ho2 with ho2; subst ho2
            exact ⟨h1, ⟨fun _ => (hevo.keepI b.1 (.inr ⟨i, hi, b, hb, rfl⟩)).2, fun _ => rfl⟩, c, hblk, hcells⟩
          · rw [if_neg hi] at ho2
            injection ho2 with ho2; injection ho2 with ho2; subst ho2
            refine ⟨h1, ⟨fun e => (hkI b.1 (h2.1 e)).2, fun hI => h2.2 ?_⟩, c, hblk, hcells⟩
            rcases hevo.old b.1 (hH.lt i b hb) hI with h | ⟨k, _, h, _⟩
            · rcases h with h | ⟨id, hid, c', h, hc'⟩
              · exact h
              · exfalso
                obtain ⟨x, hx, hxid⟩ := List.mem_flatMap.1 hid
                obtain ⟨oid, hoid⟩ := ids1_live hxid
                exact hi (hH.inj id i oid o c' b hoid hHi h hb hc' ▸ hid)
            · simp at h
    · have live : ∀ {i : Nat} {oi : AObj}, (app H (frz H ids))[i]? = some (some oi) → ∃ o, H[i]? = some (some o) := fun {i oi} hi => by
        rw [hget i] at hi
        cases hHi : H[i]? with
        | none => simp [hHi] at hi
        | some oo => cases oo with
          | none => simp [hHi] at hi
          | some o => exact ⟨o, rfl⟩
      obtain ⟨o1, h1⟩ := live hi
      obtain ⟨o2, h2⟩ := live hj
      exact hH.inj i j o1 o2 b b' h1 h2 hbi hbj hbb
    · rcases hevo.old b hb hI with h | ⟨k, _, h, _⟩
      · rcases h with h | ⟨id, _, h⟩
        · exact .inl h
        · exact .inr ⟨id, h⟩
      · simp at h

/-- Other numbers, and back. -/
theorem ren_mono {I' : Nat → Prop} {β' : Beta} {d : Nat} {rn : List Nat} (hb : ∀ (k : Nat) b, β[k]? = some (some b) → β'[rn.getD k d]? = some (some b)) (hI : ∀ b, I b → I' b) {x : AV} {v : Value} (h : ARel I β w x v) : ARel I' β' w (renC d rn x) v := by
  have list : ∀ {cs : List AV} {j : Nat} {c : AV}, (renL d rn cs)[j]? = some c → ∃ c0, cs[j]? = some c0 ∧ c = renC d rn c0 := by
    intro cs
    induction cs with
    | nil => intro j c h; simp [renL] at h
    | cons x l ih =>
      intro j c h
      cases j with
      | zero => simp [renL] at h; exact ⟨x, rfl, h.symm⟩
      | succ j => simp only [renL, List.getElem?_cons_succ] at h; exact ih h
  have len : ∀ {cs : List AV}, (renL d rn cs).length = cs.length := by
    intro cs; induction cs <;> simp [renL, *]
  induction h with
  | pv h => simp only [renC]; exact .pv (h.mono fun b hb => ⟨rfl, hI b hb⟩)
  | agg hl _ ih => simp only [renC]; exact .agg (by rw [hl, len]) fun j c hj => by obtain ⟨c0, h0, rfl⟩ := list hj; exact ih j c0 h0
  | ms h1 h2 h3 h4 h5 => simp only [renC]; exact .ms (hb _ _ h1) h2 h3 h4 h5
  | ptr h1 => simp only [renC]; exact .ptr (hb _ _ h1)
  | fn hl _ ih => simp only [renC]; exact .fn (by rw [hl, len]) fun j c hj => by obtain ⟨c0, h0, rfl⟩ := list hj; exact ih j c0 h0
  | tup hl _ ih => simp only [renC]; exact .tup (by rw [hl, len]) fun j c hj => by obtain ⟨c0, h0, rfl⟩ := list hj; exact ih j c0 h0
  | dead v => simp only [renC]; exact .dead v

theorem renL_get {d : Nat} {rn : List Nat} : ∀ {cs : List AV} {j : Nat}, (renL d rn cs)[j]? = (cs[j]?).map (renC d rn)
  | [], j => by simp [renL]
  | x :: l, 0 => by simp [renL]
  | x :: l, j + 1 => by simp only [renL, List.getElem?_cons_succ]; exact renL_get

theorem renL_length {d : Nat} {rn : List Nat} : ∀ {cs : List AV}, (renL d rn cs).length = cs.length
  | [] => rfl
  | x :: l => by simp [renL, renL_length]

theorem ren_back {βc : Beta} {d : Nat} {rn : List Nat} (hb : ∀ (k : Nat) b, β[rn.getD k d]? = some (some b) → βc[k]? = some (some b)) : ∀ {x y : AV} {v : Value}, y = renC d rn x → ARel I β w y v → ARel I βc w x v := by
  intro x y v hxy h
  induction h generalizing x with
  | pv h => cases x <;> simp only [renC] at hxy <;> cases hxy; exact .pv h
  | agg hl _ ih =>
    cases x <;> simp only [renC] at hxy <;> cases hxy
    exact .agg (by rw [hl, renL_length]) fun j c hj => ih j (renC d rn c) (by rw [renL_get, hj]; rfl) rfl
  | ms h1 h2 h3 h4 h5 => cases x <;> simp only [renC] at hxy <;> cases hxy; exact .ms (hb _ _ h1) h2 h3 h4 h5
  | ptr h1 => cases x <;> simp only [renC] at hxy <;> cases hxy; exact .ptr (hb _ _ h1)
  | fn hl _ ih =>
    cases x <;> simp only [renC] at hxy <;> cases hxy
    exact .fn (by rw [hl, renL_length]) fun j c hj => ih j (renC d rn c) (by rw [renL_get, hj]; rfl) rfl
  | tup hl _ ih =>
    cases x <;> simp only [renC] at hxy <;> cases hxy
    exact .tup (by rw [hl, renL_length]) fun j c hj => ih j (renC d rn c) (by rw [renL_get, hj]; rfl) rfl
  | dead v => cases x <;> simp only [renC] at hxy <;> cases hxy; exact .dead v

theorem renRows_cell {d : Nat} {rn : List Nat} {rows : Rows} {i j : Nat} : rowCell (renRows d rn rows) i j = (rowCell rows i j).map (renC d rn) := by
  cases rows with
  | box cs =>
    simp only [renRows, rowCell]
    split
    · exact renL_get
    · rfl
  | p xs =>
    simp only [renRows, rowCell]
    cases xs[i]?.bind (·[j]?) <;> simp [renC]
  | m xs =>
    simp only [renRows, rowCell, List.getElem?_map]
    cases xs[i]? with
    | none => rfl
    | some r => simp [renL_get]

theorem renRows_wide {d : Nat} {rn : List Nat} {rows : Rows} {z : Nat} : rowsWide (renRows d rn rows) z ↔ rowsWide rows z := by
  cases rows with
  | box cs => simp [renRows, rowsWide, renL_length]
  | p xs => simp [renRows, rowsWide]
  | m xs =>
    simp only [renRows, rowsWide, List.getElem?_map, Option.map_eq_some_iff]
    constructor
    · intro h i r hr; have := h i _ ⟨r, hr, rfl⟩; rwa [renL_length] at this
    · rintro h i _ ⟨r, hr, rfl⟩; rw [renL_length]; exact h i r hr

theorem passed_spec {d : Nat} {rn : List Nat} : ∀ {ids : List Nat} {Hc : Heap}, passed H d rn ids Hc → Hc.length = ids.length ∧ ∀ (k : Nat) oo, Hc[k]? = some oo → ∃ o i, oo = some o ∧ ids[k]? = some i ∧ H[i]? = some (some (renO d rn o))
  | [], [], _ => by simp
  | [], o :: Hc, h => by cases o <;> simp [passed] at h
  | i :: l, [], h => by simp [passed] at h
  | i :: l, none :: Hc, h => by simp [passed] at h
  | i :: l, some o :: Hc, h => by
    simp only [passed] at h
    obtain ⟨h1, h2⟩ := passed_spec h.2
    refine ⟨by simp [h1], fun k oo hk => ?_⟩
    cases k with
    | zero => simp at hk; subst hk; exact ⟨o, i, rfl, rfl, h.1⟩
    | succ k => obtain ⟨o, i, e1, e2, e3⟩ := h2 k oo (by simpa using hk); exact ⟨o, i, e1, by simpa using e2, e3⟩

theorem allD_spec : ∀ {l : List Nat}, allD l = true → ∀ (i j x : Nat), l[i]? = some x → l[j]? = some x → i = j
  | [], _, i, j, x, h, _ => by simp at h
  | y :: l, h, i, j, x, hi, hj => by
    simp only [allD, Bool.and_eq_true, List.all_eq_true, Bool.not_eq_true'] at h
    cases i with
    | zero =>
      cases j with
      | zero => rfl
      | succ j =>
        simp at hi hj; subst hi
        have := h.1 y (List.mem_of_getElem? hj)
        simp at this
    | succ i =>
      cases j with
      | zero =>
        simp at hi hj; subst hj
        have := h.1 y (List.mem_of_getElem? hi)
        simp at this
      | succ j => rw [allD_spec h.2 i j x (by simpa using hi) (by simpa using hj)]

end
end Go.Cw
