/-
  Cw, part V: a call that is handed objects.
-/
import Derived.Test.YtlhakdmenohdnaaCwU
namespace Go.Cw
set_option linter.unusedVariables false
section
variable {P : Program} {T : Tab} {I J : Nat → Prop} {β : Beta} {w : World} {H : Heap}

theorem tabl_get : ∀ (n a m : Nat), (tabl a n)[m]? = if m < n then some (a + m) else none
  | 0, a, m => by simp [tabl]
  | n + 1, a, 0 => by simp [tabl]
  | n + 1, a, m + 1 => by
    simp only [tabl, List.getElem?_cons_succ, tabl_get n (a + 1) m]
    by_cases h : m < n
    · rw [if_pos h, if_pos (by omega)]; congr 1; omega
    · rw [if_neg h, if_neg (by omega)]
theorem tabl_length : ∀ (n a : Nat), (tabl a n).length = n
  | 0, a => rfl
  | n + 1, a => by simp [tabl, tabl_length n]

theorem taken_spec {d : Nat} {rn : List Nat} : ∀ {ids : List Nat} {Hc H : Heap}, ids.length ≤ Hc.length → allD ids = true → (∀ i ∈ ids, i < H.length) →
    (taken d rn ids Hc H).length = H.length + (Hc.length - ids.length) ∧ (∀ (k i : Nat) oc, ids[k]? = some i → Hc[k]? = some oc → (taken d rn ids Hc H)[i]? = some (renOpt d rn oc)) ∧
      (∀ i, i < H.length → i ∉ ids → (taken d rn ids Hc H)[i]? = H[i]?) ∧ ∀ m, (taken d rn ids Hc H)[H.length + m]? = (Hc[ids.length + m]?).map (renOpt d rn)
  | [], Hc, H, _, _, _ => by
    simp only [taken]
    refine ⟨by simp, fun k i oc h => by simp at h, fun i hi _ => List.getElem?_append_left hi, fun m => ?_⟩
    rw [List.getElem?_append_right (by omega)]
    simp
  | i :: l, [], H, h, _, _ => by simp at h
  | i :: l, o :: Hc, H, h, hd, hlt => by
    simp only [taken]
    simp only [allD, Bool.and_eq_true, List.all_eq_true, Bool.not_eq_true'] at hd
    have hni : i ∉ l := fun hm => by have := hd.1 i hm; simp at this
    obtain ⟨h1, h2, h3, h4⟩ := taken_spec (d := d) (rn := rn) (ids := l) (Hc := Hc) (H := H.set i (renOpt d rn o)) (by simp at h; omega) hd.2 (fun j hj => by simp; exact hlt j (by simp [hj]))
    simp only [List.length_set] at h1 h3 h4
    refine ⟨by rw [h1]; simp, fun k i' oc hk hc => ?_, fun i' hi' hn => ?_, fun m => ?_⟩
    · cases k with
      | zero =>
        simp at hk hc; subst hk; subst hc
        rw [h3 i (hlt i (by simp)) hni, List.getElem?_set_self (hlt i (by simp))]
      | succ k => exact h2 k i' oc (by simpa using hk) (by simpa using hc)
    · simp only [List.mem_cons, not_or] at hn
      rw [h3 i' hi' hn.2, List.getElem?_set_ne (fun e => hn.1 e.symm)]
    · rw [h4 m]; simp only [List.length_cons]; rw [show l.length + 1 + m = l.length + m + 1 from by omega, List.getElem?_cons_succ]

theorem obj_call (hH : HSim I β H w) {f : FuncId} {args as : List AV} {vals : Array Value} (hl : vals.size = args.length) (hargs : ∀ (j : Nat) c, args[j]? = some c → ARel I β w c (vals.getD j undef))
    {ids : List Nat} {Hc : Heap} {Post : AV → Heap → Prop} (hd : allD ids = true) (hp : passed H H.length ids ids Hc) (ha : args = renL H.length ids as) (hc : ACall P f as Hc Post) {K : AV → Heap → Prop}
    (hK : ∀ r Hc', Post r Hc' → ids.length ≤ Hc'.length ∧ K (renC 0 (ids ++ tabl H.length (Hc'.length - ids.length)) r) (taken 0 (ids ++ tabl H.length (Hc'.length - ids.length)) ids Hc' H)) : Enterable P f ∧ CallsOut P I β w f vals K := by
  obtain ⟨hent, hc⟩ := hc
  refine ⟨hent, ?_⟩
  obtain ⟨hpl, hps⟩ := passed_spec hp
  let βc : Beta := ids.map fun i => (β[i]?).getD none
  have hβc : ∀ (k : Nat) b, βc[k]? = some (some b) ↔ ∃ i, ids[k]? = some i ∧ β[i]? = some (some b) := fun k b => by
    simp only [βc, List.getElem?_map, Option.map_eq_some_iff]
    constructor
    · rintro ⟨i, hi, h⟩
      refine ⟨i, hi, ?_⟩
      cases hb : β[i]? with
      | none => simp [hb] at h
      | some x => simp [hb] at h; rw [h]
    · rintro ⟨i, hi, h⟩
      exact ⟨i, hi, by simp [h]⟩
  have hlive : ∀ (k i : Nat), ids[k]? = some i → ∃ o b, Hc[k]? = some (some o) ∧ H[i]? = some (some (renO H.length ids o)) ∧ β[i]? = some (some b) := fun k i hk => by
    have hlt := (List.getElem?_eq_some_iff.1 hk).1
    obtain ⟨o, i', e1, e2, e3⟩ := hps k _ (List.getElem?_eq_getElem (show k < Hc.length by omega))
    rw [hk] at e2; injection e2 with e2; subst e2
    obtain ⟨b, hb, _⟩ := hH.obj i _ e3
    exact ⟨o, b, by rw [List.getElem?_eq_getElem (show k < Hc.length by omega), e1], e3, hb⟩
  have hback : ∀ (k : Nat) b, β[ids.getD k H.length]? = some (some b) → βc[k]? = some (some b) := fun k b hb => by
    rcases Nat.lt_or_ge k ids.length with h | h
    · rw [hβc]
      refine ⟨ids[k], List.getElem?_eq_getElem h, ?_⟩
      simpa [List.getD, h] using hb
    · have : ids.getD k H.length = H.length := by simp [List.getD, List.getElem?_eq_none h]
      rw [this, List.getElem?_eq_none (by rw [hH.len]; exact Nat.le_refl _)] at hb
      cases hb
  have hSim : HSim I βc Hc w := by
    refine ⟨by simp [βc, hpl], fun k o hk => ?_, fun k1 k2 o1 o2 b b' h1 h2 h3 h4 hbb => ?_, hH.imm, fun k b hb => ?_⟩
    · obtain ⟨o', i, e1, e2, e3⟩ := hps k _ hk
      injection e1 with e1; subst e1
      obtain ⟨b, hb, g1, g2, c, g3, g4⟩ := hH.obj i _ e3
      refine ⟨b, (hβc k b).2 ⟨i, e2, hb⟩, renRows_wide.1 g1, g2, c, g3, fun i' j x hx => ?_⟩
      obtain ⟨v, hv, g5, g6⟩ := g4 i' j (renC H.length ids x) (by show rowCell (renRows H.length ids o.rows) i' j = _; rw [renRows_cell, hx]; rfl)
      exact ⟨v, hv, g5, ren_back hback rfl g6⟩
    · obtain ⟨i1, e1, b1⟩ := (hβc k1 b).1 h3
      obtain ⟨i2, e2, b2⟩ := (hβc k2 b').1 h4
      obtain ⟨_, _, _, l1, _⟩ := hlive k1 i1 e1
      obtain ⟨_, _, _, l2, _⟩ := hlive k2 i2 e2
      have := hH.inj i1 i2 _ _ b b' l1 l2 b1 b2 hbb
      subst this
      exact allD_spec hd k1 k2 i1 e1 e2
    · obtain ⟨i, _, h⟩ := (hβc k b).1 hb
      exact hH.lt i b h
  have hcall := hc I βc w vals hSim (by rw [hl, ha, renL_length]) (fun j c hj => ren_back hback rfl (hargs j (renC H.length ids c) (by rw [ha, renL_get, hj]; rfl)))
  refine hcall.mono fun e w' h => ?_
  obtain ⟨r, Hc', I', β', v, he, hpost, hH', hr, hevo⟩ := h
  obtain ⟨hle, hk⟩ := hK r Hc' hpost
  have hidlt : ∀ i ∈ ids, i < H.length := fun i hi => by
    obtain ⟨k, hk⟩ := List.getElem?_of_mem hi
    obtain ⟨_, _, _, h, _⟩ := hlive k i hk
    exact (List.getElem?_eq_some_iff.1 h).1
  obtain ⟨t1, t2, t3, t4⟩ := taken_spec (d := 0) (rn := ids ++ tabl H.length (Hc'.length - ids.length)) (H := H) hle hd hidlt
  have hsk : ∀ (k i : Nat) b, ids[k]? = some i → β'[k]? = some (some b) → β[i]? = some (some b) := fun k i b hk hb => by
    obtain ⟨o, b0, _, _, h0⟩ := hlive k i hk
    have := hevo.pre k b0 ((hβc k b0).2 ⟨i, hk, h0⟩)
    rw [hb] at this; injection this with this; injection this with this; subst this
    exact h0
  have hβl : ∀ (i : Nat) b, β[i]? = some (some b) → (β ++ β'.drop ids.length)[i]? = some (some b) := fun i b hb => by
    rw [List.getElem?_append_left (List.getElem?_eq_some_iff.1 hb).1]; exact hb
  have hβr : ∀ (m : Nat), (β ++ β'.drop ids.length)[H.length + m]? = β'[ids.length + m]? := fun m => by
    rw [List.getElem?_append_right (by rw [hH.len]; omega), List.getElem?_drop]; congr 1; rw [hH.len]; omega
  have hfwd : ∀ (k : Nat) b, β'[k]? = some (some b) → (β ++ β'.drop ids.length)[(ids ++ tabl H.length (Hc'.length - ids.length)).getD k 0]? = some (some b) := fun k b hb => by
    have hklt : k < Hc'.length := by have := (List.getElem?_eq_some_iff.1 hb).1; rw [hH'.len] at this; exact this
    rcases Nat.lt_or_ge k ids.length with h | h
    · have e : (ids ++ tabl H.length (Hc'.length - ids.length)).getD k 0 = ids[k] := by simp [List.getD, List.getElem?_append_left h, h]
      rw [e]
      exact hβl _ b (hsk k _ b (List.getElem?_eq_getElem h) hb)
    · obtain ⟨m, rfl⟩ : ∃ m, k = ids.length + m := ⟨k - ids.length, by omega⟩
      have e : (ids ++ tabl H.length (Hc'.length - ids.length)).getD (ids.length + m) 0 = H.length + m := by
        rw [List.getD_eq_getElem?_getD, List.getElem?_append_right (by omega), tabl_get, if_pos (by omega), Option.getD_some]; congr 1; omega
      rw [e, hβr]; exact hb
  have hother : ∀ (i : Nat) o b, H[i]? = some (some o) → β[i]? = some (some b) → i ∉ ids → ∀ (k : Nat) c, βc[k]? = some (some c) → c.1 ≠ b.1 := fun i o b hi hb hn k c hkb hcb => by
    obtain ⟨i2, e2, b2⟩ := (hβc k c).1 hkb
    obtain ⟨_, _, _, l2, _⟩ := hlive k i2 e2
    have := hH.inj i i2 o _ b c hi l2 hb b2 hcb.symm
    subst this
    exact hn (List.mem_of_getElem? e2)
  have hkI : ∀ b, I b → w'.heap[b]? = w.heap[b]? ∧ I' b := hevo.keepI
  have hmono : ∀ {x : AV} {v : Value}, ARel I β w x v → ARel I' (β ++ β'.drop ids.length) w' x v := fun h => h.mono hkI hβl hevo.shape
  have hren : ∀ {x : AV} {v : Value}, ARel I' β' w' x v → ARel I' (β ++ β'.drop ids.length) w' (renC 0 (ids ++ tabl H.length (Hc'.length - ids.length)) x) v := fun h => ren_mono hfwd (fun b h => h) h
  have hosim : ∀ (k : Nat) o, Hc'[k]? = some (some o) → ∃ b, β'[k]? = some (some b) ∧ OSim I' (β ++ β'.drop ids.length) w' b (renO 0 (ids ++ tabl H.length (Hc'.length - ids.length)) o) := fun k o hk => by
    obtain ⟨b, hb, g1, g2, c, g3, g4⟩ := hH'.obj k o hk
    refine ⟨b, hb, renRows_wide.2 g1, g2, c, g3, fun i j x hx => ?_⟩
    have hx' : (rowCell o.rows i j).map (renC 0 (ids ++ tabl H.length (Hc'.length - ids.length))) = some x := by rw [← renRows_cell]; exact hx
    obtain ⟨x0, hx0, rfl⟩ := Option.map_eq_some_iff.1 hx'
    obtain ⟨v, hv, g5, g6⟩ := g4 i j x0 hx0
    exact ⟨v, hv, g5, hren g6⟩
  -- which object lies where
  have hcase : ∀ (i : Nat) o, (taken 0 (ids ++ tabl H.length (Hc'.length - ids.length)) ids Hc' H)[i]? = some (some o) →
      (∃ k o0, Hc'[k]? = some (some o0) ∧ o = renO 0 (ids ++ tabl H.length (Hc'.length - ids.length)) o0 ∧ (ids ++ tabl H.length (Hc'.length - ids.length)).getD k 0 = i) ∨ (i ∉ ids ∧ H[i]? = some (some o)) := fun i o ho => by
    have hilt := (List.getElem?_eq_some_iff.1 ho).1
    rw [t1] at hilt
    rcases Nat.lt_or_ge i H.length with h | h
    · by_cases hi : i ∈ ids
      · obtain ⟨k, hk⟩ := List.getElem?_of_mem hi
        have hklt := (List.getElem?_eq_some_iff.1 hk).1
        have := t2 k i _ hk (List.getElem?_eq_getElem (show k < Hc'.length by omega))
        rw [ho] at this
        injection this with this
        cases hoc : Hc'[k]'(by omega) with
        | none => rw [hoc] at this; simp [renOpt] at this
        | some o0 =>
          rw [hoc] at this; simp only [renOpt, Option.some.injEq] at this
          refine .inl ⟨k, o0, by rw [List.getElem?_eq_getElem (show k < Hc'.length by omega), hoc], this, ?_⟩
          rw [List.getD_eq_getElem?_getD, List.getElem?_append_left hklt, hk]; rfl
      · rw [t3 i h hi] at ho
        exact .inr ⟨hi, ho⟩
    · obtain ⟨m, rfl⟩ : ∃ m, i = H.length + m := ⟨i - H.length, by omega⟩
      rw [t4 m] at ho
      simp only [Option.map_eq_some_iff] at ho
      obtain ⟨oo, hoo, he⟩ := ho
      cases oo with
      | none => simp [renOpt] at he
      | some o0 =>
        simp only [renOpt, Option.some.injEq] at he
        refine .inl ⟨ids.length + m, o0, hoo, he.symm, ?_⟩
        rw [List.getD_eq_getElem?_getD, List.getElem?_append_right (by omega), tabl_get, if_pos (by omega), Option.getD_some]; omega
  have hinjrn : ∀ (k1 k2 i : Nat) (b : Nat), (ids ++ tabl H.length (Hc'.length - ids.length)).getD k1 0 = i → (ids ++ tabl H.length (Hc'.length - ids.length)).getD k2 0 = i → True := fun _ _ _ _ _ _ => trivial
  refine ⟨_, _, I', β ++ β'.drop ids.length, v, he, hk, ⟨?_, fun i o ho => ?_, fun i j oi oj b b' hi hj hbi hbj hbb => ?_, hH'.imm, fun i b hb => ?_⟩, hren hr, ⟨hevo.os, hevo.tape, hevo.output, hevo.size, hβl, fun i b hb => ?_, fun b hb hn => ?_, hkI, fun b hb hI => ?_, hevo.shape⟩, fun s hs => ?_⟩
  · rw [t1, List.length_append, List.length_drop, hH.len, hH'.len]
  · rcases hcase i o ho with ⟨k, o0, g1, rfl, rfl⟩ | ⟨hn, hi⟩
    · obtain ⟨b, hb, hos⟩ := hosim k o0 g1
      exact ⟨b, hfwd k b hb, hos⟩
    · obtain ⟨b, hb, hos⟩ := hH.obj i o hi
      have hblt := hH.lt i b hb
      refine ⟨b, hβl i b hb, hos.mono hkI hβl hevo.shape (hevo.keep b.1 hblt (hother i o b hi hb hn)) (fun hI => ?_)⟩
      rcases hevo.old b.1 hblt hI with h | ⟨k, c, h, hc⟩
      · exact h
      · exact absurd hc (hother i o b hi hb hn k c h)
  · -- no two live objects share a block
    have blk : ∀ (i : Nat) o b, (taken 0 (ids ++ tabl H.length (Hc'.length - ids.length)) ids Hc' H)[i]? = some (some o) → (β ++ β'.drop ids.length)[i]? = some (some b) →
        (∃ k o0, Hc'[k]? = some (some o0) ∧ β'[k]? = some (some b) ∧ (ids ++ tabl H.length (Hc'.length - ids.length)).getD k 0 = i) ∨ (i ∉ ids ∧ H[i]? = some (some o) ∧ β[i]? = some (some b)) := fun i o b ho hb => by
      rcases hcase i o ho with ⟨k, o0, g1, _, g3⟩ | ⟨hn, hi⟩
      · obtain ⟨b0, hb0, _⟩ := hosim k o0 g1
        have := hfwd k b0 hb0
        rw [g3, hb] at this; injection this with this; injection this with this; subst this
        exact .inl ⟨k, o0, g1, hb0, g3⟩
      · obtain ⟨b0, hb0, _⟩ := hH.obj i o hi
        have := hβl i b0 hb0
        rw [hb] at this; injection this with this; injection this with this; subst this
        exact .inr ⟨hn, hi, hb0⟩
    have cross : ∀ (k i : Nat) o0 o b b', b.1 = b'.1 → Hc'[k]? = some (some o0) → β'[k]? = some (some b) → i ∉ ids → H[i]? = some (some o) → β[i]? = some (some b') → False := fun k i o0 o b b' hbb g1 g2 g3 g4 g5 => by
      rcases hevo.fresh k b g2 with h | ⟨k2, c, h, hc⟩
      · exact absurd (hH.lt i b' g5) (by omega)
      · exact hother i o b' g4 g5 g3 k2 c h (hc.trans hbb)
    rcases blk i oi b hi hbi with ⟨k1, o1, g1, g2, g3⟩ | ⟨g1, g2, g3⟩
    · rcases blk j oj b' hj hbj with ⟨k2, o2, l1, l2, l3⟩ | ⟨l1, l2, l3⟩
      · have := hH'.inj k1 k2 o1 o2 b b' g1 l1 g2 l2 hbb
        subst this
        exact g3.symm.trans l3
      · exact (cross k1 j o1 oj b b' hbb g1 g2 l1 l2 l3).elim
    · rcases blk j oj b' hj hbj with ⟨k2, o2, l1, l2, l3⟩ | ⟨l1, l2, l3⟩
      · exact (cross k2 i o2 oi b' b hbb.symm l1 l2 g1 g2 g3).elim
      · exact hH.inj i j oi oj b b' g2 l2 g3 l3 hbb
  · rcases Nat.lt_or_ge i H.length with h | h
    · rw [List.getElem?_append_left (by rw [hH.len]; exact h)] at hb
      exact Nat.lt_of_lt_of_le (hH.lt i b hb) hevo.size
    · obtain ⟨m, rfl⟩ : ∃ m, i = H.length + m := ⟨i - H.length, by omega⟩
      rw [hβr] at hb
      exact hH'.lt _ b hb
  · rcases Nat.lt_or_ge i H.length with h | h
    · rw [List.getElem?_append_left (by rw [hH.len]; exact h)] at hb
      exact .inr ⟨i, b, hb, rfl⟩
    · obtain ⟨m, rfl⟩ : ∃ m, i = H.length + m := ⟨i - H.length, by omega⟩
      rw [hβr] at hb
      rcases hevo.fresh _ b hb with h | ⟨j, c, h, hc⟩
      · exact .inl h
      · obtain ⟨i2, _, h2⟩ := (hβc j c).1 h
        exact .inr ⟨i2, c, h2, hc⟩
  · refine hevo.keep b hb (fun k c hkb => ?_)
    obtain ⟨i2, _, h2⟩ := (hβc k c).1 hkb
    exact hn i2 c h2
  · rcases hevo.old b hb hI with h | ⟨k, c, h, hc⟩
    · exact .inl h
    · obtain ⟨i2, _, h2⟩ := (hβc k c).1 h
      exact .inr ⟨i2, c, h2, hc⟩
  · rw [List.getElem?_append_left (List.getElem?_eq_some_iff.1 hs).1]; exact hs

theorem vcFun0_sound (hH : HSim I β H w) {f : FuncId} {args : List AV} {vals : Array Value} (hl : vals.size = args.length) (hargs : ∀ (j : Nat) c, args[j]? = some c → ARel I β w c (vals.getD j undef)) {K : AV → Heap → Prop}
    (h : vcFun0 P f args H K) : Enterable P f ∧ CallsOut P I β w f vals K := by
  rcases h with h | ⟨ids, Hc, as, Post, h1, h2, h3, h4, h5⟩
  · split at h
    · rename_i as0 hc
      obtain ⟨hok, as, Post, he, hp, hK⟩ := h
      exact pure_call hH hl hargs hc hok he hp hK
    · exact h.elim
  · exact obj_call hH hl hargs h1 h2 h3 h4 h5

theorem vcFun_sound (hH : HSim I β H w) {f : FuncId} {args : List AV} {vals : Array Value} (hl : vals.size = args.length) (hargs : ∀ (j : Nat) c, args[j]? = some c → ARel I β w c (vals.getD j undef)) {K : AV → Heap → Prop}
    (h : vcFun P f args H K) : Enterable P f ∧ CallsOut P I β w f vals K := by
  obtain ⟨as, hle, h⟩ := h
  obtain ⟨h1, h2⟩ := hle.spec
  exact vcFun0_sound hH (by rw [hl, h1]) (fun j c hc => by
    obtain ⟨x, hx, hxc⟩ := h2 j c hc
    exact hxc _ _ _ _ (hargs j x hx)) h

end
end Go.Cw
