/-
  Part 2 of the proof (CwV, CwX, CwW, CwY, CwZ, CwPA, CwPB, CwPC, CwPD, CwH, CwL, CwJ, CwK, CwXA, CwXB, CwXC, CwXD): what later parts use. No conditions.
-/
import Derived.LoopN
import Derived.Scope
import Derived.Carry
import Derived.ChangeSame
import Derived.WideShapes
import Derived.OpenShut
import Derived.ProofKit
import Derived.Test.YtlhakdmenohdnaaMB1

/-
  Cw, part V: a call that is handed objects.
-/
namespace Go.Cw
set_option linter.unusedVariables false
section
variable {P : Program} {T : Tab} {I J : Nat → Prop} {β : Beta} {w : World} {H : Heap}

theorem tabl_get : ∀ (n a m : Nat), (tabl a n)[m]? = if m < n then some (a + m) else none
  | 0, a, m => by simp [tabl]
  | n + 1, a, 0 => by simp [tabl]
  | n + 1, a, m + 1 => by
    simp only [tabl, List.getElem?_cons_succ, tabl_get n (a + 1) m]
    by_cases h : m < n
    · rw [if_pos h, if_pos (by omega)]; congr 1; omega
    · rw [if_neg h, if_neg (by omega)]
theorem tabl_length : ∀ (n a : Nat), (tabl a n).length = n
  | 0, a => rfl
  | n + 1, a => by simp [tabl, tabl_length n]

theorem taken_spec {d : Nat} {rn : List Nat} : ∀ {ids : List Nat} {Hc H : Heap}, ids.length ≤ Hc.length → allD ids = true → (∀ i ∈ ids, i < H.length) →
    (taken d rn ids Hc H).length = H.length + (Hc.length - ids.length) ∧ (∀ (k i : Nat) oc, ids[k]? = some i → Hc[k]? = some oc → (taken d rn ids Hc H)[i]? = some (renOpt d rn oc)) ∧
      (∀ i, i < H.length → i ∉ ids → (taken d rn ids Hc H)[i]? = H[i]?) ∧ ∀ m, (taken d rn ids Hc H)[H.length + m]? = (Hc[ids.length + m]?).map (renOpt d rn)
  | [], Hc, H, _, _, _ => by
    simp only [taken]
    refine ⟨by simp, fun k i oc h => by simp at h, fun i hi _ => List.getElem?_append_left hi, fun m => ?_⟩
    rw [List.getElem?_append_right (by omega)]
    simp
  | i :: l, [], H, h, _, _ => by simp at h
  | i :: l, o :: Hc, H, h, hd, hlt => by
    simp only [taken]
    simp only [allD, Bool.and_eq_true, List.all_eq_true, Bool.not_eq_true'] at hd
    have hni : i ∉ l := fun hm => by have := hd.1 i hm; simp at this
    obtain ⟨h1, h2, h3, h4⟩ := taken_spec (d := d) (rn := rn) (ids := l) (Hc := Hc) (H := H.set i (renOpt d rn o)) (by simp at h; omega) hd.2 (fun j hj => by simp; exact hlt j (by simp [hj]))
    simp only [List.length_set] at h1 h3 h4
    refine ⟨by rw [h1]; simp, fun k i' oc hk hc => ?_, fun i' hi' hn => ?_, fun m => ?_⟩
    · cases k with
      | zero =>
        simp at hk hc; subst hk; subst hc
        rw [h3 i (hlt i (by simp)) hni, List.getElem?_set_self (hlt i (by simp))]
      | succ k => exact h2 k i' oc (by simpa using hk) (by simpa using hc)
    · simp only [List.mem_cons, not_or] at hn
      rw [h3 i' hi' hn.2, List.getElem?_set_ne (fun e => hn.1 e.symm)]
    · rw [h4 m]; simp only [List.length_cons]; rw [show l.length + 1 + m = l.length + m + 1 from by omega, List.getElem?_cons_succ]

theorem obj_call (hH : HSim I β H w) {f : FuncId} {args as : List AV} {vals : Array Value} (hl : vals.size = args.length) (hargs : ∀ (j : Nat) c, args[j]? = some c → ARel I β w c (vals.getD j undef))
    {ids : List Nat} {Hc : Heap} {Post : AV → Heap → Prop} (hd : allD ids = true) (hp : passed H H.length ids ids Hc) (ha : args = renL H.length ids as) (hc : ACall P f as Hc Post) {K : AV → Heap → Prop}
    (hK : ∀ r Hc', Post r Hc' → ids.length ≤ Hc'.length ∧ K (renC 0 (ids ++ tabl H.length (Hc'.length - ids.length)) r) (taken 0 (ids ++ tabl H.length (Hc'.length - ids.length)) ids Hc' H)) : Enterable P f ∧ CallsOut P I β w f vals K := by
  obtain ⟨hent, hc⟩ := hc
  refine ⟨hent, ?_⟩
  obtain ⟨hpl, hps⟩ := passed_spec hp
  let βc : Beta := ids.map fun i => (β[i]?).getD none
  have hβc : ∀ (k : Nat) b, βc[k]? = some (some b) ↔ ∃ i, ids[k]? = some i ∧ β[i]? = some (some b) := fun k b => by
    simp only [βc, List.getElem?_map, Option.map_eq_some_iff]
    constructor
    · rintro ⟨i, hi, h⟩
      refine ⟨i, hi, ?_⟩
      cases hb : β[i]? with
      | none => simp [hb] at h
      | some x => simp [hb] at h; rw [h]
    · rintro ⟨i, hi, h⟩
      exact ⟨i, hi, by simp [h]⟩
  have hlive : ∀ (k i : Nat), ids[k]? = some i → ∃ o b, Hc[k]? = some (some o) ∧ H[i]? = some (some (renO H.length ids o)) ∧ β[i]? = some (some b) := fun k i hk => by
    have hlt := (List.getElem?_eq_some_iff.1 hk).1
    obtain ⟨o, i', e1, e2, e3⟩ := hps k _ (List.getElem?_eq_getElem (show k < Hc.length by omega))
    rw [hk] at e2; injection e2 with e2; subst e2
    obtain ⟨b, hb, _⟩ := hH.obj i _ e3
    exact ⟨o, b, by rw [List.getElem?_eq_getElem (show k < Hc.length by omega), e1], e3, hb⟩
  have hback : ∀ (k : Nat) b, β[ids.getD k H.length]? = some (some b) → βc[k]? = some (some b) := fun k b hb => by
    rcases Nat.lt_or_ge k ids.length with h | h
    · rw [hβc]
      refine ⟨ids[k], List.getElem?_eq_getElem h, ?_⟩
      simpa [List.getD, h] using hb
    · have : ids.getD k H.length = H.length := by simp [List.getD, List.getElem?_eq_none h]
      rw [this, List.getElem?_eq_none (by rw [hH.len]; exact Nat.le_refl _)] at hb
      cases hb
  have hSim : HSim I βc Hc w := by
    refine ⟨by simp [βc, hpl], fun k o hk => ?_, fun k1 k2 o1 o2 b b' h1 h2 h3 h4 hbb => ?_, hH.imm, fun k b hb => ?_⟩
    · obtain ⟨o', i, e1, e2, e3⟩ := hps k _ hk
      injection e1 with e1; subst e1
      obtain ⟨b, hb, g1, g2, c, g3, g4⟩ := hH.obj i _ e3
      refine ⟨b, (hβc k b).2 ⟨i, e2, hb⟩, renRows_wide.1 g1, g2, c, g3, fun i' j x hx => ?_⟩
      obtain ⟨v, hv, g5, g6⟩ := g4 i' j (renC H.length ids x) (by show rowCell (renRows H.length ids o.rows) i' j = _; rw [renRows_cell, hx]; rfl)
      exact ⟨v, hv, g5, ren_back hback rfl g6⟩
    · obtain ⟨i1, e1, b1⟩ := (hβc k1 b).1 h3
      obtain ⟨i2, e2, b2⟩ := (hβc k2 b').1 h4
      obtain ⟨_, _, _, l1, _⟩ := hlive k1 i1 e1
      obtain ⟨_, _, _, l2, _⟩ := hlive k2 i2 e2
      have := hH.inj i1 i2 _ _ b b' l1 l2 b1 b2 hbb
      subst this
      exact allD_spec hd k1 k2 i1 e1 e2
    · obtain ⟨i, _, h⟩ := (hβc k b).1 hb
      exact hH.lt i b h
  have hcall := hc I βc w vals hSim (by rw [hl, ha, renL_length]) (fun j c hj => ren_back hback rfl (hargs j (renC H.length ids c) (by rw [ha, renL_get, hj]; rfl)))
  refine hcall.mono fun e w' h => ?_
  obtain ⟨r, Hc', I', β', v, he, hpost, hH', hr, hevo⟩ := h
  obtain ⟨hle, hk⟩ := hK r Hc' hpost
  have hidlt : ∀ i ∈ ids, i < H.length := fun i hi => by
    obtain ⟨k, hk⟩ := List.getElem?_of_mem hi
    obtain ⟨_, _, _, h, _⟩ := hlive k i hk
    exact (List.getElem?_eq_some_iff.1 h).1
  obtain ⟨t1, t2, t3, t4⟩ := taken_spec (d := 0) (rn := ids ++ tabl H.length (Hc'.length - ids.length)) (H := H) hle hd hidlt
  have hsk : ∀ (k i : Nat) b, ids[k]? = some i → β'[k]? = some (some b) → β[i]? = some (some b) := fun k i b hk hb => by
    obtain ⟨o, b0, _, _, h0⟩ := hlive k i hk
    have := hevo.pre k b0 ((hβc k b0).2 ⟨i, hk, h0⟩)
    rw [hb] at this; injection this with this; injection this with this; subst this
    exact h0
  have hβl : ∀ (i : Nat) b, β[i]? = some (some b) → (β ++ β'.drop ids.length)[i]? = some (some b) := fun i b hb => by
    rw [List.getElem?_append_left (List.getElem?_eq_some_iff.1 hb).1]; exact hb
  have hβr : ∀ (m : Nat), (β ++ β'.drop ids.length)[H.length + m]? = β'[ids.length + m]? := fun m => by
    rw [List.getElem?_append_right (by rw [hH.len]; omega), List.getElem?_drop]; congr 1; rw [hH.len]; omega
  have hfwd : ∀ (k : Nat) b, β'[k]? = some (some b) → (β ++ β'.drop ids.length)[(ids ++ tabl H.length (Hc'.length - ids.length)).getD k 0]? = some (some b) := fun k b hb => by
    have hklt : k < Hc'.length := by have := (List.getElem?_eq_some_iff.1 hb).1; rw [hH'.len] at this; exact this
    rcases Nat.lt_or_ge k ids.length with h | h
    · have e : (ids ++ tabl H.length (Hc'.length - ids.length)).getD k 0 = ids[k] := by simp [List.getD, List.getElem?_append_left h, h]
      rw [e]
      exact hβl _ b (hsk k _ b (List.getElem?_eq_getElem h) hb)
    · obtain ⟨m, rfl⟩ : ∃ m, k = ids.length + m := ⟨k - ids.length, by omega⟩
      have e : (ids ++ tabl H.length (Hc'.length - ids.length)).getD (ids.length + m) 0 = H.length + m := by
        rw [List.getD_eq_getElem?_getD, List.getElem?_append_right (by omega), tabl_get, if_pos (by omega), Option.getD_some]; congr 1; omega
      rw [e, hβr]; exact hb
  have hother : ∀ (i : Nat) o b, H[i]? = some (some o) → β[i]? = some (some b) → i ∉ ids → ∀ (k : Nat) c, βc[k]? = some (some c) → c.1 ≠ b.1 := fun i o b hi hb hn k c hkb hcb => by
    obtain ⟨i2, e2, b2⟩ := (hβc k c).1 hkb
    obtain ⟨_, _, _, l2, _⟩ := hlive k i2 e2
    have := hH.inj i i2 o _ b c hi l2 hb b2 hcb.symm
    subst this
    exact hn (List.mem_of_getElem? e2)
  have hkI : ∀ b, I b → w'.heap[b]? = w.heap[b]? ∧ I' b := hevo.keepI
  have hmono : ∀ {x : AV} {v : Value}, ARel I β w x v → ARel I' (β ++ β'.drop ids.length) w' x v := fun h => h.mono hkI hβl hevo.shape
  have hren : ∀ {x : AV} {v : Value}, ARel I' β' w' x v → ARel I' (β ++ β'.drop ids.length) w' (renC 0 (ids ++ tabl H.length (Hc'.length - ids.length)) x) v := fun h => ren_mono hfwd (fun b h => h) h
  have hosim : ∀ (k : Nat) o, Hc'[k]? = some (some o) → ∃ b, β'[k]? = some (some b) ∧ OSim I' (β ++ β'.drop ids.length) w' b (renO 0 (ids ++ tabl H.length (Hc'.length - ids.length)) o) := fun k o hk => by
    obtain ⟨b, hb, g1, g2, c, g3, g4⟩ := hH'.obj k o hk
    refine ⟨b, hb, renRows_wide.2 g1, g2, c, g3, fun i j x hx => ?_⟩
    have hx' : (rowCell o.rows i j).map (renC 0 (ids ++ tabl H.length (Hc'.length - ids.length))) = some x := by rw [← renRows_cell]; exact hx
    obtain ⟨x0, hx0, rfl⟩ := Option.map_eq_some_iff.1 hx'
    obtain ⟨v, hv, g5, g6⟩ := g4 i j x0 hx0
    exact ⟨v, hv, g5, hren g6⟩
  -- which object lies where
  have hcase : ∀ (i : Nat) o, (taken 0 (ids ++ tabl H.length (Hc'.length - ids.length)) ids Hc' H)[i]? = some (some o) →
      (∃ k o0, Hc'[k]? = some (some o0) ∧ o = renO 0 (ids ++ tabl H.length (Hc'.length - ids.length)) o0 ∧ (ids ++ tabl H.length (Hc'.length - ids.length)).getD k 0 = i) ∨ (i ∉ ids ∧ H[i]? = some (some o)) := fun i o ho => by
    have hilt := (List.getElem?_eq_some_iff.1 ho).1
    rw [t1] at hilt
    rcases Nat.lt_or_ge i H.length with h | h
    · by_cases hi : i ∈ ids
      · obtain ⟨k, hk⟩ := List.getElem?_of_mem hi
        have hklt := (List.getElem?_eq_some_iff.1 hk).1
        have := t2 k i _ hk (List.getElem?_eq_getElem (show k < Hc'.length by omega))
        rw [ho] at this
        injection this with this
        cases hoc : Hc'[k]'(by omega) with
        | none => rw [hoc] at this; simp [renOpt] at this
        | some o0 =>
          rw [hoc] at this; simp only [renOpt, Option.some.injEq] at this
          refine .inl ⟨k, o0, by rw [List.getElem?_eq_getElem (show k < Hc'.length by omega), hoc], this, ?_⟩
          rw [List.getD_eq_getElem?_getD, List.getElem?_append_left hklt, hk]; rfl
      · rw [t3 i h hi] at ho
        exact .inr ⟨hi, ho⟩
    · obtain ⟨m, rfl⟩ : ∃ m, i = H.length + m := ⟨i - H.length, by omega⟩
      rw [t4 m] at ho
      simp only [Option.map_eq_some_iff] at ho
      obtain ⟨oo, hoo, he⟩ := ho
      cases oo with
      | none => simp [renOpt] at he
      | some o0 =>
        simp only [renOpt, Option.some.injEq] at he
        refine .inl ⟨ids.length + m, o0, hoo, he.symm, ?_⟩
        rw [List.getD_eq_getElem?_getD, List.getElem?_append_right (by omega), tabl_get, if_pos (by omega), Option.getD_some]; omega
  have hinjrn : ∀ (k1 k2 i : Nat) (b : Nat), (ids ++ tabl H.length (Hc'.length - ids.length)).getD k1 0 = i → (ids ++ tabl H.length (Hc'.length - ids.length)).getD k2 0 = i → True := fun _ _ _ _ _ _ => trivial
  refine ⟨_, _, I', β ++ β'.drop ids.length, v, he, hk, ⟨?_, fun i o ho => ?_, fun i j oi oj b b' hi hj hbi hbj hbb => ?_, hH'.imm, fun i b hb => ?_⟩, hren hr, ⟨hevo.os, hevo.tape, hevo.output, hevo.size, hβl, fun i b hb => ?_, fun b hb hn => ?_, hkI, fun b hb hI => ?_, hevo.shape⟩, fun s hs => ?_⟩
  · rw [t1, List.length_append, List.length_drop, hH.len, hH'.len]
  · rcases hcase i o ho with ⟨k, o0, g1, rfl, rfl⟩ | ⟨hn, hi⟩
    · obtain ⟨b, hb, hos⟩ := hosim k o0 g1
      exact ⟨b, hfwd k b hb, hos⟩
    · obtain ⟨b, hb, hos⟩ := hH.obj i o hi
      have hblt := hH.lt i b hb
      refine ⟨b, hβl i b hb, hos.mono hkI hβl hevo.shape (hevo.keep b.1 hblt (hother i o b hi hb hn)) (fun hI => ?_)⟩
      rcases hevo.old b.1 hblt hI with h | ⟨k, c, h, hc⟩
      · exact h
      · exact absurd hc (hother i o b hi hb hn k c h)
  · -- no two live objects share a block
    have blk : ∀ (i : Nat) o b, (taken 0 (ids ++ tabl H.length (Hc'.length - ids.length)) ids Hc' H)[i]? = some (some o) → (β ++ β'.drop ids.length)[i]? = some (some b) →
        (∃ k o0, Hc'[k]? = some (some o0) ∧ β'[k]? = some (some b) ∧ (ids ++ tabl H.length (Hc'.length - ids.length)).getD k 0 = i) ∨ (i ∉ ids ∧ H[i]? = some (some o) ∧ β[i]? = some (some b)) := fun i o b ho hb => by
      rcases hcase i o ho with ⟨k, o0, g1, _, g3⟩ | ⟨hn, hi⟩
      · obtain ⟨b0, hb0, _⟩ := hosim k o0 g1
        have := hfwd k b0 hb0
        rw [g3, hb] at this; injection this with this; injection this with this; subst this
        exact .inl ⟨k, o0, g1, hb0, g3⟩
      · obtain ⟨b0, hb0, _⟩ := hH.obj i o hi
        have := hβl i b0 hb0
        rw [hb] at this; injection this with this; injection this with this; subst this
        exact .inr ⟨hn, hi, hb0⟩
    have cross : ∀ (k i : Nat) o0 o b b', b.1 = b'.1 → Hc'[k]? = some (some o0) → β'[k]? = some (some b) → i ∉ ids → H[i]? = some (some o) → β[i]? = some (some b') → False := fun k i o0 o b b' hbb g1 g2 g3 g4 g5 => by
      rcases hevo.fresh k b g2 with h | ⟨k2, c, h, hc⟩
      · exact absurd (hH.lt i b' g5) (by omega)
      · exact hother i o b' g4 g5 g3 k2 c h (hc.trans hbb)
    rcases blk i oi b hi hbi with ⟨k1, o1, g1, g2, g3⟩ | ⟨g1, g2, g3⟩
    · rcases blk j oj b' hj hbj with ⟨k2, o2, l1, l2, l3⟩ | ⟨l1, l2, l3⟩
      · have := hH'.inj k1 k2 o1 o2 b b' g1 l1 g2 l2 hbb
        subst this
        exact g3.symm.trans l3
      · exact (cross k1 j o1 oj b b' hbb g1 g2 l1 l2 l3).elim
    · rcases blk j oj b' hj hbj with ⟨k2, o2, l1, l2, l3⟩ | ⟨l1, l2, l3⟩
      · exact (cross k2 i o2 oi b' b hbb.symm l1 l2 g1 g2 g3).elim
      · exact hH.inj i j oi oj b b' g2 l2 g3 l3 hbb
  · rcases Nat.lt_or_ge i H.length with h | h
    · rw [List.getElem?_append_left (by rw [hH.len]; exact h)] at hb
      exact Nat.lt_of_lt_of_le (hH.lt i b hb) hevo.size
    · obtain ⟨m, rfl⟩ : ∃ m, i = H.length + m := ⟨i - H.length, by omega⟩
      rw [hβr] at hb
      exact hH'.lt _ b hb
  · rcases Nat.lt_or_ge i H.length with h | h
    · rw [List.getElem?_append_left (by rw [hH.len]; exact h)] at hb
      exact .inr ⟨i, b, hb, rfl⟩
    · obtain ⟨m, rfl⟩ : ∃ m, i = H.length + m := ⟨i - H.length, by omega⟩
      rw [hβr] at hb
      rcases hevo.fresh _ b hb with h | ⟨j, c, h, hc⟩
      · exact .inl h
      · obtain ⟨i2, _, h2⟩ := (hβc j c).1 h
        exact .inr ⟨i2, c, h2, hc⟩
  · refine hevo.keep b hb (fun k c hkb => ?_)
    obtain ⟨i2, _, h2⟩ := (hβc k c).1 hkb
    exact hn i2 c h2
  · rcases hevo.old b hb hI with h | ⟨k, c, h, hc⟩
    · exact .inl h
    · obtain ⟨i2, _, h2⟩ := (hβc k c).1 h
      exact .inr ⟨i2, c, h2, hc⟩
  · rw [List.getElem?_append_left (List.getElem?_eq_some_iff.1 hs).1]; exact hs

theorem vcFun0_sound (hH : HSim I β H w) {f : FuncId} {args : List AV} {vals : Array Value} (hl : vals.size = args.length) (hargs : ∀ (j : Nat) c, args[j]? = some c → ARel I β w c (vals.getD j undef)) {K : AV → Heap → Prop}
    (h : vcFun0 P f args H K) : Enterable P f ∧ CallsOut P I β w f vals K := by
  rcases h with h | ⟨ids, Hc, as, Post, h1, h2, h3, h4, h5⟩
  · split at h
    · rename_i as0 hc
      obtain ⟨hok, as, Post, he, hp, hK⟩ := h
      exact pure_call hH hl hargs hc hok he hp hK
    · exact h.elim
  · exact obj_call hH hl hargs h1 h2 h3 h4 h5

theorem vcFun_sound (hH : HSim I β H w) {f : FuncId} {args : List AV} {vals : Array Value} (hl : vals.size = args.length) (hargs : ∀ (j : Nat) c, args[j]? = some c → ARel I β w c (vals.getD j undef)) {K : AV → Heap → Prop}
    (h : vcFun P f args H K) : Enterable P f ∧ CallsOut P I β w f vals K := by
  obtain ⟨as, hle, h⟩ := h
  obtain ⟨h1, h2⟩ := hle.spec
  exact vcFun0_sound hH (by rw [hl, h1]) (fun j c hc => by
    obtain ⟨x, hx, hxc⟩ := h2 j c hc
    exact hxc _ _ _ _ (hargs j x hx)) h

end
end Go.Cw

/-
  Cw, part X: frames; a list of operations in the text's order.
-/
namespace Go.Cw
set_option linter.unusedVariables false
section
variable {P : Program} {T : Tab} {n : Nat}

def gput (g : Nat → Option AV) (d : Option Tmp) (v : AV) : Nat → Option AV :=
  match d with
  | some t => fun s => if t = s then some v else g s
  | none => g

theorem get_put (Γ : Slots) (d : Option Tmp) (v : AV) : get (put Γ d v) = gput (get Γ) d v := by
  cases d with
  | none => rfl
  | some t => funext s; exact get_cons Γ t s v

variable {I0 : Nat → Prop} {β0 : Beta} {w0 : World}

theorem dstOk_lt {o : Oper} (h : dstOk n o = true) {d : Tmp} (hd : o.dst = some d) : d < n := by
  simpa [dstOk, hd, Nat.blt_eq] using h

/-- A slot is written. -/
theorem Sim.put {lo cnt lo' cnt' : Nat} {g : Nat → Option AV} {H H' : Heap} {I I' : Nat → Prop} {β β' : Beta} {a : Act} {w w' : World} (hs : Sim I0 β0 w0 n lo cnt g H I β a w) {o : Oper} (hd : dstOk n o = true) {r : AV} {v : Value}
    (hH : HSim I' β' H' w') (hr : ARel I' β' w' r v) (hevo : Evo I β w I' β' w') (hfree : ∀ s, lo' ≤ s → s < lo' + cnt' → β'[s]? = some none) :
    Sim I0 β0 w0 n lo' cnt' (gput g o.dst r) H' I' β' (a.put o.dst v) w' := by
  refine ⟨hH, ?_, ?_, fun s x hx => ?_, hs.evo.trans hevo, hfree⟩
  · cases hd' : o.dst <;> simpa [Act.put] using hs.defers
  · cases hd' : o.dst <;> simpa [Act.put] using hs.size
  · cases hd' : o.dst with
    | none =>
      rw [hd'] at hx
      exact hevo.mono (hs.slot s x hx)
    | some d =>
      have hlt := dstOk_lt hd hd'
      rw [hd'] at hx
      simp only [gput] at hx
      simp only [Act.put]
      by_cases h : d = s
      · subst h
        rw [if_pos rfl] at hx
        injection hx with hx; subst hx
        have : d < a.tmps.size := by rw [hs.size]; exact hlt
        simpa [this] using hr
      · rw [if_neg h] at hx
        have e : (a.tmps.setIfInBounds d v).getD s undef = a.tmps.getD s undef := by
          simp [Array.getElem?_setIfInBounds_ne h]
        rw [e]
        exact hevo.mono (hs.slot s x hx)

theorem Sim.skip {lo cnt lo' cnt' : Nat} {g : Nat → Option AV} {H : Heap} {I : Nat → Prop} {β : Beta} {a : Act} {w : World} (hs : Sim I0 β0 w0 n lo cnt g H I β a w) {o : Oper} (hd : dstOk n o = true)
    (hfree : ∀ s, lo' ≤ s → s < lo' + cnt' → β[s]? = some none) : Sim I0 β0 w0 n lo' cnt' (gput g o.dst (.pv (.val undef))) H I β (a.put o.dst undef) w :=
  hs.put hd hs.h (rel_val _) (Evo.refl _ _ _) hfree

/-- What is known of bools. -/
def KnOk (dc : Known) (g : Nat → Option AV) : Prop := ∀ s b, kn dc s = some b → g s = some (vbool b)

theorem knOf_ok {dc : Known} {g : Nat → Option AV} (hk : KnOk dc g) {x : Operand} {b : Bool} (h : knOf dc x = some b) : evF g x = some (vbool b) := by
  unfold knOf at h
  split at h
  · injection h with h; subst h; rfl
  · exact hk _ _ h
  · cases h

theorem kn_op {dc : Known} {g : Nat → Option AV} (hk : KnOk dc g) {op : Op} {site : Nat} {H : Heap} {K : AV → Upd → List Nat → Prop} (h : vcOp T site (simpOp dc op) (evF g) H K) :
    vcOp T site op (evF g) H fun r u rd => K r u rd ∧ ∀ b, knRes dc op = some b → r = vbool b := by
  have vac : ∀ {op' : Op}, knRes dc op = none → vcOp T site op' (evF g) H K → vcOp T site op' (evF g) H fun r u rd => K r u rd ∧ ∀ b, knRes dc op = some b → r = vbool b := fun hn hv => by
    have e : (fun r u rd => K r u rd ∧ ∀ b, knRes dc op = some b → r = vbool b) = K := by
      funext r u rd; simp [hn]
    rw [e]; exact hv
  cases hn : knRes dc op with
  | none =>
    rw [hn] at vac
    have vac := @vac op rfl
    cases op with
    | pick c a b =>
      apply vac
      simp only [simpOp] at h
      split at h
      · rename_i hc
        have e := knOf_ok hk hc
        simp only [vcOp, e, vcPick, vbool] at h ⊢
        exact ⟨fun _ => h, fun h => by cases h⟩
      · rename_i hc
        have e := knOf_ok hk hc
        simp only [vcOp, e, vcPick, vbool] at h ⊢
        exact ⟨fun h => (by cases h), fun _ => h⟩
      · exact h
    | _ => exact vac h
  | some b0 =>
    have mv : ∀ {x : Operand}, knOf dc x = some b0 → vcOp T site (.move x) (evF g) H K → K (vbool b0) [] [] := fun hx hv => by
      simp only [vcOp, knOf_ok hk hx] at hv; exact hv
    cases op <;> simp only [knRes] at hn <;> try (cases hn; done)
    · rename_i x
      have := mv hn h
      simp only [vcOp, knOf_ok hk hn]
      exact ⟨this, fun b hb => by injection hb with hb; subst hb; rfl⟩
    · rename_i x
      have := mv hn (by simpa [vcOp, simpOp] using h)
      simp only [vcOp, knOf_ok hk hn]
      exact ⟨this, fun b hb => by injection hb with hb; subst hb; rfl⟩
    · rename_i c x y
      simp only [simpOp] at h
      split at hn
      · rename_i hc
        rw [hc] at h
        have := mv hn h
        simp only [vcOp, knOf_ok hk hc, vcPick, vbool]
        refine ⟨fun _ => ?_, fun h => by cases h⟩
        simp only [knOf_ok hk hn]
        exact ⟨this, fun b hb => by injection hb with hb; subst hb; rfl⟩
      · rename_i hc
        rw [hc] at h
        have := mv hn h
        simp only [vcOp, knOf_ok hk hc, vcPick, vbool]
        refine ⟨fun h => (by cases h), fun _ => ?_⟩
        simp only [knOf_ok hk hn]
        exact ⟨this, fun b hb => by injection hb with hb; subst hb; rfl⟩
      · cases hn

theorem knOut_spec : ∀ {dc : Known} {s : Nat} {K : Known → Prop}, knOut dc s K → ∃ dc', K dc' ∧ ∀ t b, kn dc' t = some b → kn dc t = some b ∧ t ≠ s
  | [], s, K, h => ⟨[], h, fun t b ht => by simp [kn] at ht⟩
  | (k, b0) :: l, s, K, h => by
    simp only [knOut] at h
    split at h
    · rename_i hk
      have hk := Nat.eq_of_beq_eq_true hk; subst hk
      obtain ⟨dc', h1, h2⟩ := knOut_spec h
      refine ⟨dc', h1, fun t b ht => ?_⟩
      obtain ⟨h3, h4⟩ := h2 t b ht
      refine ⟨?_, h4⟩
      simp only [kn]
      have : Nat.beq k t = false := by
        cases hb : Nat.beq k t
        · rfl
        · exact absurd (Nat.eq_of_beq_eq_true hb).symm h4
      rw [this]; exact h3
    · rename_i hk
      obtain ⟨dc', h1, h2⟩ := knOut_spec h
      refine ⟨_, h1, fun t b ht => ?_⟩
      simp only [kn] at ht ⊢
      cases hb : Nat.beq k t
      · rw [hb] at ht
        exact ⟨by simpa using (h2 t b (by simpa using ht)).1, (h2 t b (by simpa using ht)).2⟩
      · rw [hb] at ht
        have := Nat.eq_of_beq_eq_true hb; subst this
        refine ⟨by simpa using ht, fun e => ?_⟩
        subst e
        simp at hk

theorem knPut_spec {dc : Known} {o : Oper} {K : Known → Prop} {g : Nat → Option AV} (hk : KnOk dc g) (h : knPut dc o K) : ∃ dc', K dc' ∧ ∀ r, (∀ b, knRes dc o.op = some b → r = vbool b) → KnOk dc' (gput g o.dst r) := by
  unfold knPut at h
  split at h
  · rename_i d hd
    have old : ∀ {dc' : Known}, (∀ t b, kn dc' t = some b → kn dc t = some b ∧ t ≠ d) → ∀ r s b, kn dc' s = some b → gput g (some d) r s = some (vbool b) := fun h2 r s b hs => by
      obtain ⟨h3, h4⟩ := h2 s b hs
      have hne : d ≠ s := fun e => h4 e.symm
      simp only [gput, if_neg hne]
      exact hk s b h3
    have new : ∀ {dc' : Known} {b0 : Bool}, (∀ t b, kn dc' t = some b → kn dc t = some b ∧ t ≠ d) → knRes dc o.op = some b0 → ∀ r, (∀ b, knRes dc o.op = some b → r = vbool b) → KnOk ((d, b0) :: dc') (gput g o.dst r) := fun h2 hb r hr s b hs => by
      rw [hd]
      simp only [kn] at hs
      cases hbeq : Nat.beq d s
      · rw [hbeq] at hs; exact old h2 r s b (by simpa using hs)
      · rw [hbeq] at hs
        have := Nat.eq_of_beq_eq_true hbeq; subst this
        simp only [cond_true, Option.some.injEq] at hs; subst hs
        simp only [gput, if_true]
        rw [hr _ hb]
    split at h
    · rename_i hb
      obtain ⟨dc', h1, h2⟩ := knOut_spec h
      exact ⟨_, h1, new h2 hb⟩
    · rename_i hb
      obtain ⟨dc', h1, h2⟩ := knOut_spec h
      exact ⟨_, h1, new h2 hb⟩
    · obtain ⟨dc', h1, h2⟩ := knOut_spec h
      exact ⟨_, h1, fun r _ => by rw [hd]; exact old h2 r⟩
  · rename_i hd
    exact ⟨dc, h, fun r _ => by rw [hd]; exact hk⟩

theorem knSkip_spec {dc : Known} {o : Oper} {K : Known → Prop} {g : Nat → Option AV} (hk : KnOk dc g) (h : knSkip dc o K) : ∃ dc', K dc' ∧ ∀ r, KnOk dc' (gput g o.dst r) := by
  unfold knSkip at h
  split at h
  · rename_i d hd
    obtain ⟨dc', h1, h2⟩ := knOut_spec h
    refine ⟨_, h1, fun r s b hs => ?_⟩
    obtain ⟨h3, h4⟩ := h2 s b hs
    rw [hd]
    have hne : d ≠ s := fun e => h4 e.symm
    simp only [gput, if_neg hne]
    exact hk s b h3
  · rename_i hd
    exact ⟨dc, h, fun r => by rw [hd]; exact hk⟩

/-- A guard is decided. -/
theorem vcGuard_sound {ops : Array Oper} {g : Nat → Option AV} {Γ : Slots} (hg : get Γ = g) {dc : Known} (hk : KnOk dc g) {a : Act} {I : Nat → Prop} {β : Beta} {w : World} (hs : ∀ s x, g s = some x → ARel I β w x (a.tmps.getD s undef))
    {o : Oper} {run skip : Known → Prop} (h : vcGuard ops.toList Γ dc o.guard run skip) :
    (Region.wanted o (yielded ops a.tmps) = true ∧ ∃ dc', KnOk dc' g ∧ run dc') ∨ (Region.wanted o (yielded ops a.tmps) = false ∧ ∃ dc', KnOk dc' g ∧ skip dc') := by
  unfold vcGuard at h
  split at h
  · rename_i hgd
    exact .inl ⟨by simp [Region.wanted, hgd], dc, hk, h⟩
  · rename_i j want hgd
    split at h
    · rename_i o' ho'
      split at h
      · rename_i d hd
        have ho2 : ops[j]? = some o' := by simpa using ho'
        have yes : ∀ b : Bool, g d = some (vbool b) → yielded ops a.tmps j = some b := fun b hb => by
          have hv := val_inv (hs d _ hb)
          have hlt : d < a.tmps.size := by
            rcases Nat.lt_or_ge d a.tmps.size with h | h
            · exact h
            · simp [Array.getD, Nat.not_lt.2 h, undef] at hv
          have h2 : a.tmps[d]? = some (.bool b) := by
            simp [hlt] at hv
            simp [hlt, hv]
          simp [yielded, ho2, hd, h2]
        have cons : ∀ b : Bool, g d = some (vbool b) → KnOk ((d, b) :: dc) g := fun b hb s b' hs' => by
          simp only [kn] at hs'
          cases hbeq : Nat.beq d s
          · rw [hbeq] at hs'; exact hk s b' (by simpa using hs')
          · rw [hbeq] at hs'
            have := Nat.eq_of_beq_eq_true hbeq; subst this
            simp only [cond_true, Option.some.injEq] at hs'; subst hs'
            exact hb
        have wn : ∀ b : Bool, g d = some (vbool b) → Region.wanted o (yielded ops a.tmps) = (b == want) := fun b hb => by
          simp [Region.wanted, hgd, yes b hb]
        split at h
        · rename_i b hkn
          have hb := hk _ _ hkn
          split at h
          · exact .inl ⟨wn _ hb, dc, hk, h⟩
          · exact .inl ⟨wn _ hb, dc, hk, h⟩
          · rename_i hne1 hne2
            refine .inr ⟨?_, dc, hk, h⟩
            rw [wn _ hb]
            cases b <;> cases want <;> first | rfl | exact absurd rfl (hne1 · rfl) | exact absurd rfl (hne2 · rfl)
        · split at h
          · rename_i b hb
            rw [hg] at hb
            have hb : g d = some (vbool b) := hb
            split at h
            · cases b
              · exact .inr ⟨wn _ hb, _, cons _ hb, h.2 rfl⟩
              · exact .inl ⟨wn _ hb, _, cons _ hb, h.1 rfl⟩
            · cases b
              · exact .inl ⟨wn _ hb, _, cons _ hb, h.1 rfl⟩
              · exact .inr ⟨wn _ hb, _, cons _ hb, h.2 rfl⟩
          · rename_i vs hb
            rw [hg] at hb
            have hv := val_inv (hs d _ hb)
            refine .inr ⟨?_, dc, hk, h⟩
            have : yielded ops a.tmps j = none := by
              have h2 : a.tmps[d]? = some (.tuple vs) ∨ a.tmps[d]? = none := by
                rcases Nat.lt_or_ge d a.tmps.size with h | h
                · left; simp [h] at hv; simp [h, hv]
                · right; simp [h]
              rcases h2 with h2 | h2 <;> simp [yielded, ho2, hd, h2]
            simp [Region.wanted, hgd, this]
          · exact h.elim
      · exact h.elim
    · exact h.elim

theorem func_inv {I : Nat → Prop} {β : Beta} {w : World} {fv : AV} {v : Value} {f : FuncId} {caps : List AV} (hf : fv = .fn f caps ∨ ∃ ps, fv = .pv (.fn f ps) ∧ caps = pvs ps) (h : ARel I β w fv v) :
    ∃ cv, v = .func (.func f) #[] cv ∧ cv.size = caps.length ∧ ∀ (j : Nat) c, caps[j]? = some c → ARel I β w c (cv.getD j undef) := by
  rcases hf with rfl | ⟨ps, rfl, rfl⟩
  · cases h with
    | fn hl hc => exact ⟨_, rfl, hl, hc⟩
  · cases h with
    | pv h => cases h with
      | fn hl hc =>
        refine ⟨_, rfl, by rw [hl, pvs_length], fun j c hj => ?_⟩
        obtain ⟨p, hp, rfl⟩ := pvs_get.1 hj
        exact .pv (hc j p hp)

/-- One operation. -/
theorem vcStep_sound (hT : TabOk P T) {lo cnt : Nat} {g : Nat → Option AV} {Γ : Slots} (hg : get Γ = g) {H : Heap} {I : Nat → Prop} {β : Beta} {a : Act} {w : World} (hs : Sim I0 β0 w0 n lo cnt g H I β a w) {dc : Known} (hk : KnOk dc g) {o : Oper}
    (hd : dstOk n o = true) (hal : isAlloc o.op = true → 0 < cnt) {K : Slots → Heap → Prop} (h : vcStep P T lo o.dst (simpOp dc o.op) Γ H K) {next : Act → World → Prop} {Q : Exit → Act → World → Prop}
    (hnext : ∀ r Γ' H' a' w', (∀ b, knRes dc o.op = some b → r = vbool b) → get Γ' = gput g o.dst r → K Γ' H' → SimE I0 β0 w0 n (bif isAlloc o.op then lo + 1 else lo) (bif isAlloc o.op then cnt - 1 else cnt) (get Γ') H' a' w' → next a' w') :
    o.wp P a w next Q := by
  have hρ : ∀ x v, evF g x = some v → ARel I β w v (a.eval x) := fun x v hx => evF_sound hs.slot hx
  have hcl : ∀ {c : Call}, o.op = .call c → knRes dc o.op = none := fun e => by rw [e]; rfl
  unfold vcStep at h
  split at h
  · rename_i f args ats hop
    have hop' : o.op = .call { callee := .value f, args := args, argTypes := ats } := by
      have hop := hop
      cases ho : o.op <;> rw [ho] at hop <;> simp only [simpOp] at hop <;> try (cases hop; done)
      · split at hop <;> cases hop
      · exact hop
    rw [ev_eq, hg] at h
    split at h
    · rename_i fv vs hfv hvs
      have hm : vs.length = args.toList.length ∧ ∀ (j : Nat) y, vs[j]? = some y → ∃ x, args.toList[j]? = some x ∧ evF g x = some y := mapO_spec hvs
      have key : ∀ {fid : FuncId} {caps : List AV}, (fv = .fn fid caps ∨ ∃ ps, fv = .pv (.fn fid ps) ∧ caps = pvs ps) → vcFun P fid (vs ++ caps) H (fun r H' => putK Γ o.dst r fun Γ' => forceH H' fun H2 => K Γ' H2) → o.wp P a w next Q := by
        intro fid caps hfc hcall
        obtain ⟨cv, hcv, hcl2, hcr⟩ := func_inv hfc (hρ _ _ hfv)
        have hvals : (args.map a.eval ++ cv).size = (vs ++ caps).length := by simp [hm.1, hcl2]
        obtain ⟨⟨fn, hfn, hname, hbody⟩, hout⟩ := vcFun_sound (vals := args.map a.eval ++ cv) hs.h hvals (fun j c hj => by
          rcases Nat.lt_or_ge j vs.length with h | h
          · rw [List.getElem?_append_left h] at hj
            obtain ⟨x, hx, hxe⟩ := hm.2 j c hj
            have hlt : j < args.size := by have := (List.getElem?_eq_some_iff.1 hx).1; simpa using this
            have e : (args.map a.eval ++ cv).getD j undef = a.eval x := by
              have hx2 : args[j] = x := by simpa [hlt] using hx
              have h1 : j < (args.map a.eval ++ cv).size := by simp; omega
              simp only [Array.getD, h1, dif_pos]
              show (args.map a.eval ++ cv)[j] = _
              rw [Array.getElem_append_left (by simpa using hlt)]
              simp [hx2]
            rw [e]; exact hρ _ _ hxe
          · rw [List.getElem?_append_right h] at hj
            have hlt := (List.getElem?_eq_some_iff.1 hj).1
            have hsz : vs.length = args.size := by simpa using hm.1
            have e : (args.map a.eval ++ cv).getD j undef = cv.getD (j - vs.length) undef := by
              have h1 : j < (args.map a.eval ++ cv).size := by simp; omega
              have h2 : j - vs.length < cv.size := by omega
              simp only [Array.getD, h1, h2, dif_pos]
              show (args.map a.eval ++ cv)[j] = cv[j - vs.length]
              rw [Array.getElem_append_right (by simp; omega)]
              simp [hsz]
            rw [e]; exact hcr _ c hj) hcall
        have hrun : (execOp a.eval o).run P w = .ok (.enter fid (args.map a.eval ++ cv)) w := by
          have hcf : (callFunc fid (args.map a.eval ++ cv)).run P w = .ok (.enter fid (args.map a.eval ++ cv)) w := by
            unfold callFunc
            simp only [Sem.run_bind, run_program, Result.andThen_ok, hfn, hname, Bool.false_eq_true, if_false, hbody, Sem.run_pure]
          simp only [execOp, hop', resolve, hcv, Deferred.ofValue, Sem.run_bind, Sem.run_pure, Result.andThen_ok, invoke]
          simpa using hcf
        unfold Oper.wp
        rw [hrun]
        simp only [Oper.upon]
        refine hout.mono fun e w' he => ?_
        obtain ⟨r, H2, I', β', v, rfl, hk2, hH2, hr2, hevo, hfr⟩ := he
        rw [putK_eq, forceH_eq] at hk2
        have hia : isAlloc o.op = false := by rw [hop']; rfl
        refine hnext r _ H2 _ _ (fun b hb => by rw [hcl hop'] at hb; cases hb) (by rw [get_put, hg]) hk2 ⟨I', β', ?_⟩
        rw [get_put, hg, hia]
        exact hs.put hd hH2 hr2 hevo (fun s h1 h2 => hfr s (hs.free s h1 h2))
      unfold vcCall at h
      split at h
      · exact key (.inr ⟨_, rfl, rfl⟩) h
      · exact key (.inl rfl) h
      · exact h.elim
    · exact h.elim
  · have hop : vcOp T lo o.op (evF g) H fun r u rd => (putK Γ o.dst r fun Γ' => appK H u fun H2 => K Γ' H2) ∧ ∀ b, knRes dc o.op = some b → r = vbool b := by
      rw [ev_eq, hg] at h
      exact kn_op hk h
    obtain ⟨r, u, rd, ⟨hk2, hkb⟩, nx, v, w', hrun, hnx, I', β', hH', hr', hevo, hfr⟩ := vcOp_sound hT hs.h hρ (o := o) (site := lo) (fun hal' => hs.free lo (Nat.le_refl _) (by have := hal hal'; omega)) hop
    rw [putK_eq, appK_eq] at hk2
    have hfin : next (a.put o.dst v) w' := by
      refine hnext r _ (app H u) _ _ hkb (by rw [get_put, hg]) hk2 ⟨I', β', ?_⟩
      rw [get_put, hg]
      refine hs.put hd hH' hr' hevo (fun s h1 h2 => ?_)
      cases hia : isAlloc o.op
      · rw [hia] at h1 h2 hfr
        refine hfr s (hs.free s h1 h2) (fun e => ?_)
        have := (List.getElem?_eq_some_iff.1 (hs.free s h1 h2)).1
        simp only [cond_false] at e; omega
      · rw [hia] at h1 h2 hfr
        simp only [cond_true] at h1 h2 hfr
        have := hal hia
        exact hfr s (hs.free s (by omega) (by omega)) (by omega)
    unfold Oper.wp
    rw [hrun]
    rcases hnx with rfl | ⟨rfl, rfl⟩
    · exact hfin
    · exact hfin

end
end Go.Cw

/-
  Cw, part W: other numbers for the objects; statements that do not draw; code.
-/
namespace Go.Cw
set_option linter.unusedVariables false
section
variable {P : Program} {T : Tab} {n nh : Nat}

theorem kept_spec {H : Heap} {d : Nat} {rn : List Nat} : ∀ {ids : List Nat} {Hc : Heap}, kept H d rn ids Hc → Hc.length = ids.length ∧ ∀ (k : Nat) o, Hc[k]? = some (some o) → ∃ i, ids[k]? = some i ∧ H[i]? = some (some (renO d rn o))
  | [], [], _ => by simp
  | [], o :: Hc, h => by cases o <;> simp [kept] at h
  | i :: l, [], h => by simp [kept] at h
  | i :: l, none :: Hc, h => by
    simp only [kept] at h
    obtain ⟨h1, h2⟩ := kept_spec h
    refine ⟨by simp [h1], fun k o hk => ?_⟩
    cases k with
    | zero => simp at hk
    | succ k => obtain ⟨i, e2, e3⟩ := h2 k o (by simpa using hk); exact ⟨i, by simpa using e2, e3⟩
  | i :: l, some o :: Hc, h => by
    simp only [kept] at h
    obtain ⟨h1, h2⟩ := kept_spec h.2
    refine ⟨by simp [h1], fun k o' hk => ?_⟩
    cases k with
    | zero => simp at hk; subst hk; exact ⟨i, rfl, h.1⟩
    | succ k => obtain ⟨i, e2, e3⟩ := h2 k o' (by simpa using hk); exact ⟨i, by simpa using e2, e3⟩

/-- Where the objects of the other numbers lie. -/
def renB (β : Beta) (rn : List Nat) : Beta := rn.map fun i => (β[i]?).getD none

theorem renB_get {β : Beta} {rn : List Nat} (k : Nat) (b : Nat × Nat) : (renB β rn)[k]? = some (some b) ↔ ∃ i, rn[k]? = some i ∧ β[i]? = some (some b) := by
  simp only [renB, List.getElem?_map, Option.map_eq_some_iff]
  constructor
  · rintro ⟨i, hi, h⟩
    refine ⟨i, hi, ?_⟩
    cases hb : β[i]? with
    | none => simp [hb] at h
    | some x => simp [hb] at h; rw [h]
  · rintro ⟨i, hi, h⟩
    exact ⟨i, hi, by simp [h]⟩

theorem renB_back {I : Nat → Prop} {β : Beta} {H : Heap} {w : World} (hH : HSim I β H w) {rn : List Nat} (k : Nat) (b : Nat × Nat) (hb : β[rn.getD k H.length]? = some (some b)) : (renB β rn)[k]? = some (some b) := by
  rcases Nat.lt_or_ge k rn.length with h | h
  · rw [renB_get]
    refine ⟨rn[k], List.getElem?_eq_getElem h, ?_⟩
    simpa [List.getD, h] using hb
  · have : rn.getD k H.length = H.length := by simp [List.getD, List.getElem?_eq_none h]
    rw [this, List.getElem?_eq_none (by rw [hH.len]; exact Nat.le_refl _)] at hb
    cases hb

theorem HSim.ren {I : Nat → Prop} {β : Beta} {H Hc : Heap} {w : World} (hH : HSim I β H w) {rn : List Nat} (hd : allD rn = true) (hp : kept H H.length rn rn Hc) : HSim I (renB β rn) Hc w := by
  obtain ⟨hpl, hps⟩ := kept_spec hp
  refine ⟨by simp [renB, hpl], fun k o hk => ?_, fun k1 k2 o1 o2 b b' h1 h2 h3 h4 hbb => ?_, hH.imm, fun k b hb => ?_⟩
  · obtain ⟨i, e2, e3⟩ := hps k _ hk
    obtain ⟨b, hb, g1, g2, c, g3, g4⟩ := hH.obj i _ e3
    refine ⟨b, (renB_get k b).2 ⟨i, e2, hb⟩, renRows_wide.1 g1, g2, c, g3, fun i' j x hx => ?_⟩
    obtain ⟨v, hv, g5, g6⟩ := g4 i' j (renC H.length rn x) (by show rowCell (renRows H.length rn o.rows) i' j = _; rw [renRows_cell, hx]; rfl)
    exact ⟨v, hv, g5, ren_back (renB_back hH) rfl g6⟩
  · obtain ⟨i1, e1, b1⟩ := (renB_get k1 b).1 h3
    obtain ⟨i2, e2, b2⟩ := (renB_get k2 b').1 h4
    obtain ⟨i1', e1', l1⟩ := hps k1 _ h1
    obtain ⟨i2', e2', l2⟩ := hps k2 _ h2
    rw [e1] at e1'; injection e1' with e1'; subst e1'
    rw [e2] at e2'; injection e2' with e2'; subst e2'
    have := hH.inj i1 i2 _ _ b b' l1 l2 b1 b2 hbb
    subst this
    exact allD_spec hd k1 k2 i1 e1 e2
  · obtain ⟨i, _, h⟩ := (renB_get k b).1 hb
    exact hH.lt i b h

theorem Evo.ren {I0 I : Nat → Prop} {β0 β : Beta} {w0 w : World} (he : Evo I0 β0 w0 I β w) {rn : List Nat} (hl : β0.length ≤ nh) (ht : rn.take nh = tabl 0 nh) : Evo I0 β0 w0 I (renB β rn) w := by
  refine ⟨he.os, he.tape, he.output, he.size, fun i b hb => ?_, fun i b hb => ?_, he.keep, he.keepI, he.old, he.shape⟩
  · rw [renB_get]
    refine ⟨i, ?_, he.pre i b hb⟩
    have hlt : i < nh := Nat.lt_of_lt_of_le (List.getElem?_eq_some_iff.1 hb).1 hl
    have : (rn.take nh)[i]? = some i := by rw [ht, tabl_get, if_pos hlt]; congr 1; omega
    rwa [List.getElem?_take, if_pos hlt] at this
  · obtain ⟨j, _, h⟩ := (renB_get i b).1 hb
    exact he.fresh j b h

variable {I0 : Nat → Prop} {β0 : Beta} {w0 : World}

theorem refSlots_spec {d : Nat} {rn : List Nat} {Γ : Slots} : ∀ {sl : Slots}, refSlots d rn Γ sl → ∀ s x, get sl s = some x → get Γ s = some (renC d rn x)
  | [], _, s, x, h => by simp [get] at h
  | (k, y) :: l, hr, s, x, h => by
    simp only [refSlots] at hr
    rw [get_cons] at h
    split at h
    · rename_i hks
      subst hks
      injection h with h; subst h
      exact hr.1
    · exact refSlots_spec hr.2 s x h

theorem Sim.ref (hl : β0.length ≤ nh) {Γ : Slots} {H : Heap} {S : ASt} (hr : Ref nh Γ H S) {a : Act} {w : World} (h : SimE I0 β0 w0 n 0 0 (get Γ) H a w) : SimE I0 β0 w0 n 0 0 (get S.sl) S.hp a w := by
  obtain ⟨I, β, hs⟩ := h
  obtain ⟨rn, hd, ht, hk, hrs⟩ := hr
  exact ⟨I, renB β rn, hs.h.ren hd hk, hs.defers, hs.size, fun s x hx => ren_back (renB_back hs.h) rfl (hs.slot s _ (refSlots_spec hrs s x hx)), hs.evo.ren hl ht, fun s h1 h2 => by omega⟩

theorem Ghost.ref {Γ : Slots} {H : Heap} {S : ASt} (hr : Ref nh Γ H S) : Ghost n nh Γ H S.sl S.hp := fun _ _ _ _ _ hl h => Sim.ref hl hr h

theorem SimE.fewer {lo cnt : Nat} {g : Nat → Option AV} {H : Heap} {a : Act} {w : World} (h : SimE I0 β0 w0 n lo cnt g H a w) : SimE I0 β0 w0 n 0 0 g H a w := by
  obtain ⟨I, β, hs⟩ := h
  exact ⟨I, β, hs.h, hs.defers, hs.size, hs.slot, hs.evo, fun s h1 h2 => by omega⟩

theorem SimE.drew {lo cnt : Nat} {g : Nat → Option AV} {H : Heap} {a : Act} {w : World} (h : SimE I0 β0 w0 n lo cnt g H a w) : SimE I0 β0 w0 n lo cnt g H a w.drew := by
  obtain ⟨I, β, hs⟩ := h
  exact ⟨I, β, hs.h.drew, hs.defers, hs.size, fun s x hx => (Evo.drew I β w).mono (hs.slot s x hx), hs.evo.trans (Evo.drew I β w), hs.free⟩

theorem nones_length {α : Type} : ∀ (m : Nat), (nones (α := α) m).length = m
  | 0 => rfl
  | m + 1 => by simp [nones, nones_length m]

theorem nones_get {α : Type} : ∀ (m i : Nat), (nones (α := α) m)[i]? = if i < m then some none else none
  | 0, i => by simp [nones]
  | m + 1, 0 => by simp [nones]
  | m + 1, i + 1 => by simp only [nones, List.getElem?_cons_succ, nones_get m i]; by_cases h : i < m <;> simp [h]

/-- Room for the objects that a statement makes. -/
theorem SimE.room {g : Nat → Option AV} {H : Heap} {a : Act} {w : World} (m : Nat) (h : SimE I0 β0 w0 n 0 0 g H a w) : SimE I0 β0 w0 n H.length m g (H ++ nones m) a w := by
  obtain ⟨I, β, hs⟩ := h
  have pre : ∀ (i : Nat) b, β[i]? = some (some b) → (β ++ nones m)[i]? = some (some b) := fun i b hb => by
    rw [List.getElem?_append_left (List.getElem?_eq_some_iff.1 hb).1]; exact hb
  have back : ∀ (i : Nat) b, (β ++ nones m)[i]? = some (some b) → β[i]? = some (some b) := fun i b hb => by
    rw [List.getElem?_append] at hb
    split at hb
    · exact hb
    · rw [nones_get] at hb; split at hb <;> simp at hb
  have backH : ∀ (i : Nat) o, (H ++ nones m)[i]? = some (some o) → H[i]? = some (some o) := fun i b hb => by
    rw [List.getElem?_append] at hb
    split at hb
    · exact hb
    · rw [nones_get] at hb; split at hb <;> simp at hb
  have evo : Evo I β w I (β ++ nones m) w := ⟨rfl, rfl, rfl, Nat.le_refl _, pre, fun i b h => .inr ⟨i, b, back i b h, rfl⟩, fun _ _ _ => rfl, fun _ h => ⟨rfl, h⟩, fun _ _ h => .inl h, fun _ _ _ h => h⟩
  refine ⟨I, β ++ nones m, ⟨by simp [hs.h.len, nones_length], fun i o ho => ?_, fun i j oi oj b b' h1 h2 h3 h4 => hs.h.inj i j oi oj b b' (backH i oi h1) (backH j oj h2) (back i b h3) (back j b' h4), hs.h.imm, fun i b hb => hs.h.lt i b (back i b hb)⟩,
    hs.defers, hs.size, fun s x hx => evo.mono (hs.slot s x hx), hs.evo.trans evo, fun s h1 h2 => ?_⟩
  · obtain ⟨b, hb, hos⟩ := hs.h.obj i o (backH i o ho)
    exact ⟨b, pre i b hb, hos.mono (fun _ h => ⟨rfl, h⟩) pre (fun _ _ _ h => h) rfl (fun h => h)⟩
  · rw [List.getElem?_append_right (by rw [hs.h.len]; exact h1), nones_get, if_pos (by rw [hs.h.len]; omega)]

/-- A list of operations. -/
theorem vcOps_sound (hT : TabOk P T) {ops : Array Oper} {K : Slots → Heap → Prop} {Q : Exit → Act → World → Prop}
    (hK : ∀ Γ H a w, SimE I0 β0 w0 n 0 0 (get Γ) H a w → K Γ H → Q .normal a w) : ∀ (l : List Oper) (i lo cnt : Nat) (dc : Known) (Γ : Slots) (H : Heap) (a : Act) (w : World),
    (∀ j, l[j]? = ops[i + j]?) → allocs l ≤ cnt → KnOk dc (get Γ) → SimE I0 β0 w0 n lo cnt (get Γ) H a w → vcOps P T n ops.toList l lo K dc Γ H → wpOps P ops Q (List.range' i l.length) a w
  | [], i, lo, cnt, dc, Γ, H, a, w, hl, hc, hk, hs, h => by
    simp only [List.length_nil, List.range'_zero, wpOps]
    exact hK Γ H a w hs.fewer h
  | o :: l, i, lo, cnt, dc, Γ, H, a, w, hl, hc, hk, hs, h => by
    have hi : ops[i]? = some o := by have := hl 0; simpa using this.symm
    have hl' : ∀ j, l[j]? = ops[i + 1 + j]? := fun j => by have := hl (j + 1); simp only [List.getElem?_cons_succ] at this; rw [this]; congr 1; omega
    simp only [List.length_cons, List.range'_succ, wpOps, hi]
    obtain ⟨I, β, hs⟩ := hs
    have hstep : ∀ (lo' : Nat), (bif isAlloc o.op then lo + 1 else lo) = lo' → dstOk n o = true →
        vcGuard ops.toList Γ dc o.guard (fun dc' => knPut dc' o fun d2 => vcStep P T lo o.dst (simpOp dc' o.op) Γ H (vcOps P T n ops.toList l lo' K d2))
          (fun dc' => knSkip dc' o fun d2 => putK Γ o.dst (.pv (.val undef)) fun Γ' => vcOps P T n ops.toList l lo' K d2 Γ' H) →
        if Region.wanted o (yielded ops a.tmps) = true then o.wp P a w (wpOps P ops Q (List.range' (i + 1) l.length)) Q ∨ (o.asks P a w ∧ LetsOut Q)
          else wpOps P ops Q (List.range' (i + 1) l.length) (a.put o.dst undef) w := fun lo' hlo hd hg => by
      have hal : isAlloc o.op = true → 0 < cnt := fun e => by
        simp only [allocs, e, cond_true] at hc; omega
      have hcl : allocs l ≤ (bif isAlloc o.op then cnt - 1 else cnt) := by
        cases e : isAlloc o.op
        · simp only [allocs, e, cond_false] at hc; simpa using hc
        · simp only [allocs, e, cond_true] at hc; simp only [cond_true]; omega
      rcases vcGuard_sound rfl hk hs.slot hg with ⟨hw, dc', hk', h⟩ | ⟨hw, dc', hk', h⟩
      · rw [if_pos hw]
        obtain ⟨d2, h2, h3⟩ := knPut_spec hk' h
        refine .inl (vcStep_sound hT rfl hs hk' hd hal h2 fun r Γ' H' a' w' hr hget hK' hs' => ?_)
        rw [hlo] at hs'
        exact vcOps_sound hT hK l (i + 1) lo' _ d2 Γ' H' a' w' hl' hcl (by rw [hget]; exact h3 r hr) hs' hK'
      · rw [if_neg (by rw [hw]; exact Bool.false_ne_true)]
        obtain ⟨d2, h2, h3⟩ := knSkip_spec hk' h
        rw [putK_eq] at h2
        refine vcOps_sound hT hK l (i + 1) lo' _ d2 _ H _ w hl' hcl (by rw [get_put]; exact h3 _) ⟨I, β, ?_⟩ h2
        rw [get_put]
        refine hs.skip hd fun s h1 h2 => ?_
        cases e : isAlloc o.op
        · rw [e] at hlo h2; simp only [cond_false] at hlo h2; subst hlo; exact hs.free s h1 h2
        · rw [e] at hlo h2; simp only [cond_true] at hlo h2; subst hlo; have := hal e; exact hs.free s (by omega) (by omega)
    simp only [vcOps] at h
    split at h
    · rename_i hd ha; exact hstep (lo + 1) (by rw [ha]; rfl) hd h
    · rename_i hd ha; exact hstep lo (by rw [ha]; rfl) hd h
    · exact h.elim

/-- What a statement that draws must show (part POR). -/
def DrawsOk (P : Program) (T : Tab) (n : Nat) (I0 : Nat → Prop) (β0 : Beta) (w0 : World) : Prop :=
  ∀ (id : Nat) (ops : Array Oper) (K : Slots → Heap → Prop) (Q : Exit → Act → World → Prop) (lo : Nat) (Γ : Slots) (H : Heap) (a : Act) (w : World),
    (∀ Γ H a w, SimE I0 β0 w0 n 0 0 (get Γ) H a w → K Γ H → Q .normal a w) → SimE I0 β0 w0 n lo (allocs ops.toList) (get Γ) H a w →
    vcOpsD P T n ops.toList ops.toList lo (fun fs Γ' H' => drawOk ops fs.reverse = true ∧ K Γ' H') [] [] Γ H → (Code.region id ops true).wp P Q a w

theorem knOk_nil (g : Nat → Option AV) : KnOk [] g := fun s b h => by simp [kn] at h

theorem without_mem {j k : Nat} : ∀ {l : List Nat}, k ∈ without j l ↔ k ∈ l ∧ k ≠ j
  | [] => by simp [without]
  | x :: l => by
    simp only [without]
    cases hb : Nat.beq x j
    · have hne : x ≠ j := fun e => by subst e; simp at hb
      simp only [cond_false, List.mem_cons, without_mem (l := l)]
      constructor
      · rintro (rfl | h)
        · exact ⟨.inl rfl, hne⟩
        · exact ⟨.inr h.1, h.2⟩
      · rintro ⟨rfl | h, h2⟩
        · exact .inl rfl
        · exact .inr ⟨h, h2⟩
    · have he := Nat.eq_of_beq_eq_true hb
      simp only [cond_true, List.mem_cons, without_mem (l := l)]
      subst he
      constructor
      · rintro ⟨h1, h2⟩; exact ⟨.inr h1, h2⟩
      · rintro ⟨h1 | h1, h2⟩
        · exact absurd h1 h2
        · exact ⟨h1, h2⟩

theorem hasN_iff {j : Nat} : ∀ {l : List Nat}, hasN j l = true ↔ j ∈ l
  | [] => by simp [hasN]
  | x :: l => by
    simp only [hasN]
    cases hb : Nat.beq x j
    · have hne : ¬ j = x := fun e => by subst e; simp at hb
      simp [hasN_iff (l := l), hne]
    · have := Nat.eq_of_beq_eq_true hb
      simp [this]

def allocsIn (ops : Array Oper) : List Nat → Nat
  | [] => 0
  | j :: l => (match ops[j]? with
    | some o => bif isAlloc o.op then 1 else 0
    | none => 0) + allocsIn ops l

theorem allocsIn_without {ops : Array Oper} {j : Nat} : ∀ {l : List Nat}, j ∈ l → allocsIn ops (without j l) + (match ops[j]? with
    | some o => bif isAlloc o.op then 1 else 0
    | none => 0) ≤ allocsIn ops l
  | [], h => by simp at h
  | x :: l, h => by
    have le : ∀ l : List Nat, allocsIn ops (without j l) ≤ allocsIn ops l := fun l => by
      induction l with
      | nil => simp [without, allocsIn]
      | cons y l ih =>
        simp only [without]
        cases Nat.beq y j
        · simp only [cond_false, allocsIn]; omega
        · simp only [cond_true, allocsIn]; omega
    simp only [without]
    cases hb : Nat.beq x j
    · simp only [cond_false, allocsIn]
      have hne : ¬ j = x := fun e => by subst e; simp at hb
      have := allocsIn_without (ops := ops) (l := l) (by simpa [hne] using h)
      omega
    · have := Nat.eq_of_beq_eq_true hb
      subst this
      simp only [cond_true, allocsIn]
      have := le l
      omega

theorem eachReady_spec {ops : Array Oper} {rem : List Nat} {F : Nat → Prop} : ∀ {l : List Nat}, eachReady ops rem F l → ∀ j ∈ l, readyIn ops rem j = true → F j
  | [], _, j, hj, _ => by simp at hj
  | x :: l, h, j, hj, hr => by
    simp only [eachReady] at h
    rcases List.mem_cons.1 hj with rfl | hj
    · rw [hr] at h; exact h.1
    · split at h
      · exact eachReady_spec h.2 j hj hr
      · exact eachReady_spec h j hj hr

theorem vcAny_sound (hT : TabOk P T) {ops : Array Oper} {K : Slots → Heap → Prop} {Q : Exit → Act → World → Prop}
    (hK : ∀ Γ H a w, SimE I0 β0 w0 n 0 0 (get Γ) H a w → K Γ H → Q .normal a w) : ∀ (fuel : Nat) (rem : List Nat) (lo cnt : Nat) (Γ : Slots) (H : Heap) (a : Act) (w : World) (listed : Array Bool),
    listed.size = ops.size → (∀ k, k < ops.size → (listed.getD k false = true ↔ k ∉ rem)) → (∀ k ∈ rem, k < ops.size) → allocsIn ops rem ≤ cnt → SimE I0 β0 w0 n lo cnt (get Γ) H a w → vcAny P T n ops fuel rem lo K Γ H → wpAny P .any ops Q fuel listed a w := by
  intro fuel
  have none_ready : ∀ (listed : Array Bool), listed.size = ops.size → (∀ k, k < ops.size → (listed.getD k false = true ↔ k ∉ ([] : List Nat))) → Region.ready .any ops listed = [] := fun listed hsz hl => by
    apply List.eq_nil_iff_forall_not_mem.2
    intro j hj
    obtain ⟨h1, o, ho, _⟩ := mem_ready.1 hj
    have hjl := (Array.getElem?_eq_some_iff.1 ho).1
    have h2 := (hl j hjl).2 (by simp)
    simp [hsz, hjl] at h1 h2
    rw [h1] at h2; cases h2
  induction fuel with
  | zero =>
    intro rem lo cnt Γ H a w listed hsz hl hr hc hs h
    cases rem with
    | nil =>
      simp only [vcAny] at h
      exact ⟨none_ready listed hsz hl, hK Γ H a w hs.fewer h⟩
    | cons j rem => exact h.elim
  | succ fuel ih =>
    intro rem lo cnt Γ H a w listed hsz hl hr hc hs h
    have rdy : ∀ j, j ∈ Region.ready .any ops listed → j ∈ rem ∧ readyIn ops rem j = true := fun j hj => by
      obtain ⟨h1, o, ho, hpre⟩ := mem_ready.1 hj
      have hjl := (Array.getElem?_eq_some_iff.1 ho).1
      have hjr : j ∈ rem := by
        rcases Classical.em (j ∈ rem) with h | h
        · exact h
        · have := (hl j hjl).2 h
          simp [hsz, hjl] at h1 this
          rw [h1] at this; cases this
      refine ⟨hjr, ?_⟩
      simp only [readyIn, ho, List.all_eq_true]
      intro e he
      cases hb : Region.binds .any e
      · rfl
      · have h3 := hpre e (by simpa using he) hb
        have hlt : e.on < ops.size := by
          rcases Nat.lt_or_ge e.on ops.size with h | h
          · exact h
          · simp [Array.getElem?_eq_none (by omega : listed.size ≤ e.on)] at h3
        have hblt : Nat.blt e.on ops.size = true := by rw [Nat.blt_eq]; exact hlt
        cases hh : hasN e.on rem
        · rw [hblt]; rfl
        · have hm := hasN_iff.1 hh
          have := (hl e.on (hr _ hm)).1 h3
          exact absurd hm this
    cases rem with
    | nil =>
      simp only [vcAny] at h
      have h0 := none_ready listed hsz hl
      refine ⟨fun _ => hK Γ H a w hs.fewer h, fun j hj => ?_⟩
      rw [h0] at hj; cases hj
    | cons j0 rem0 =>
      simp only [vcAny] at h
      generalize hrem : j0 :: rem0 = rem at *
      split at h
      case h_2 => exact h.elim
      rename_i hany
      refine ⟨fun h0 => ?_, fun j hj => ?_⟩
      · exfalso
        obtain ⟨j, hjr, hjd⟩ := List.any_eq_true.1 hany
        have hjl := hr j hjr
        have : j ∈ Region.ready .any ops listed := by
          refine mem_ready.2 ⟨?_, ops[j], Array.getElem?_eq_getElem hjl, fun e he hb => ?_⟩
          · have : ¬ (listed.getD j false = true) := fun e => (hl j hjl).1 e hjr
            simp [hsz, hjl] at this ⊢; exact this
          · simp only [readyIn, Array.getElem?_eq_getElem hjl, List.all_eq_true] at hjd
            have := hjd e (by simpa using he)
            rw [hb] at this
            simp only [Bool.not_true, Bool.false_or, Bool.and_eq_true, Bool.not_eq_true', Nat.blt_eq] at this
            have hnm : e.on ∉ rem := fun hm => by rw [hasN_iff.2 hm] at this; cases this.2
            exact (hl _ this.1).2 hnm
        rw [h0] at this; cases this
      · obtain ⟨hjr, hjd⟩ := rdy j hj
        have hjl := hr j hjr
        have hstep := eachReady_spec h j hjr hjd
        have ho : ops[j]? = some ops[j] := Array.getElem?_eq_getElem hjl
        simp only [ho] at hstep
        obtain ⟨I, β, hs'⟩ := hs
        have hl' : ∀ k, k < ops.size → ((listed.setIfInBounds j true).getD k false = true ↔ k ∉ without j rem) := fun k hk => by
          rw [without_mem]
          by_cases hkj : k = j
          · subst hkj; simp [hsz, hk]
          · have : (listed.setIfInBounds j true).getD k false = listed.getD k false := by simp [Array.getElem?_setIfInBounds_ne (fun e => hkj e.symm)]
            rw [this, hl k hk]; simp [hkj]
        have hcw := allocsIn_without (ops := ops) hjr
        simp only [ho] at hcw
        have go : ∀ lo', (bif isAlloc ops[j].op then lo + 1 else lo) = lo' → dstOk n ops[j] = true → vcGuard ops.toList Γ [] ops[j].guard (fun _ => vcStep P T lo ops[j].dst (simpOp [] ops[j].op) Γ H (vcAny P T n ops fuel (without j rem) lo' K))
            (fun _ => putK Γ ops[j].dst (.pv (.val undef)) fun Γ' => vcAny P T n ops fuel (without j rem) lo' K Γ' H) → wpOp P ops Q j (wpAny P .any ops Q fuel (listed.setIfInBounds j true)) a w := fun lo' hlo hd hg => by
          have hal : isAlloc ops[j].op = true → 0 < cnt := fun e => by rw [e] at hcw; simp only [cond_true] at hcw; omega
          unfold wpOp
          simp only [ho]
          rcases vcGuard_sound rfl (knOk_nil _) hs'.slot hg with ⟨hw, dc', hk', h⟩ | ⟨hw, dc', hk', h⟩
          · rw [if_pos hw]
            refine .inl (vcStep_sound (dc := []) hT rfl hs' (knOk_nil _) hd hal h fun r Γ' H' a' w' hr' hget hK' hs2 => ?_)
            rw [hlo] at hs2
            exact ih (without j rem) lo' _ Γ' H' a' w' _ (by simpa using hsz) hl' (fun k hk => hr k (without_mem.1 hk).1) (by
              cases e : isAlloc ops[j].op <;> rw [e] at hcw <;> simp only [cond_true, cond_false] at hcw ⊢ <;> omega) hs2 hK'
          · rw [if_neg (by rw [hw]; exact Bool.false_ne_true)]
            rw [putK_eq] at h
            refine ih (without j rem) lo' (bif isAlloc ops[j].op then cnt - 1 else cnt) _ H _ w _ (by simpa using hsz) hl' (fun k hk => hr k (without_mem.1 hk).1) (by
              cases e : isAlloc ops[j].op <;> rw [e] at hcw <;> simp only [cond_true, cond_false] at hcw ⊢ <;> omega) ⟨I, β, ?_⟩ h
            rw [get_put]
            refine hs'.skip hd fun s h1 h2 => ?_
            cases e : isAlloc ops[j].op
            · rw [e] at hlo h2; simp only [cond_false] at hlo h2; subst hlo; exact hs'.free s h1 h2
            · rw [e] at hlo h2; simp only [cond_true] at hlo h2; subst hlo; have := hal e; exact hs'.free s (by omega) (by omega)
        split at hstep
        · rename_i hd ha; exact go (lo + 1) (by rw [ha]; rfl) hd hstep
        · rename_i hd ha; exact go lo (by rw [ha]; rfl) hd hstep
        · exact hstep.elim

theorem vcRegion_sound (hT : TabOk P T) (hD : DrawsOk P T n I0 β0 w0) {id : Nat} {ops : Array Oper} {draw : Bool} {K : Slots → Heap → Prop} {Q : Exit → Act → World → Prop}
    (hK : ∀ Γ H a w, SimE I0 β0 w0 n 0 0 (get Γ) H a w → K Γ H → Q .normal a w) {Γ : Slots} {H : Heap} {a : Act} {w : World} (hs : SimE I0 β0 w0 n 0 0 (get Γ) H a w) (h : vcRegion P T n ops draw K Γ H) :
    (Code.region id ops draw).wp P Q a w := by
  unfold vcRegion at h
  split at h
  · have base : ∀ (lo : Nat) (H' : Heap), SimE I0 β0 w0 n lo (allocs ops.toList) (get Γ) H' a w → vcOps P T n ops.toList ops.toList lo K [] Γ H' → (Code.region id ops false).wp P Q a w := fun lo H' hs' h' => by
      refine wp_region ?_
      rw [List.range_eq_range', ← Array.length_toList]
      exact vcOps_sound hT hK ops.toList 0 lo _ [] Γ H' a w (fun j => by simp) (Nat.le_refl _) (knOk_nil _) hs' h'
    split at h
    · rename_i h0
      exact base 0 H (by rw [h0]; exact hs) h
    · rename_i m h0
      rw [lenK_eq, forceH_eq] at h
      refine base H.length _ ?_ (by simpa using h)
      rw [h0]; exact hs.room (m + 1)
  · split at h
    · rename_i h0
      exact hD id ops K Q 0 Γ H a w hK (by rw [h0]; exact hs) h
    · rename_i m h0
      rw [lenK_eq, forceH_eq] at h
      refine hD id ops K Q H.length Γ _ a w hK ?_ (by simpa using h)
      rw [h0]; exact hs.room (m + 1)

theorem nat_min {p : Nat → Prop} (h : ∃ m, p m) : ∃ m, p m ∧ ∀ k, p k → m ≤ k := by
  obtain ⟨m, hm⟩ := h
  induction m using Nat.strongRecOn with
  | _ m ih =>
    by_cases hk : ∃ k, k < m ∧ p k
    · obtain ⟨k, hlt, hp⟩ := hk; exact ih k hlt hp
    · exact ⟨m, hm, fun k hp => by
        rcases Nat.lt_or_ge k m with h | h
        · exact absurd ⟨k, h, hp⟩ hk
        · exact h⟩

open Classical in
noncomputable def least (p : Nat → Prop) : Nat := if h : ∃ m, p m then Classical.choose (nat_min h) else 0
theorem least_is {p : Nat → Prop} (h : ∃ m, p m) : p (least p) := by
  unfold least; rw [dif_pos h]; exact (Classical.choose_spec (nat_min h)).1
theorem least_le {p : Nat → Prop} {k : Nat} (h : p k) : least p ≤ k := by
  unfold least; rw [dif_pos ⟨k, h⟩]; exact (Classical.choose_spec (nat_min ⟨k, h⟩)).2 k h

theorem allocsIn_range {ops : Array Oper} : ∀ (l : List Oper) (k : Nat), (∀ j, l[j]? = ops[k + j]?) → allocsIn ops (List.range' k l.length) = allocs l
  | [], k, _ => rfl
  | o :: l, k, h => by
    have h0 : ops[k]? = some o := by have := h 0; simpa using this.symm
    have ih := allocsIn_range (ops := ops) l (k + 1) (fun j => by have := h (j + 1); simp only [List.getElem?_cons_succ] at this; rw [this]; congr 1; omega)
    simp only [List.length_cons, List.range'_succ, allocsIn, h0, allocs, ih]
    cases isAlloc o.op <;> simp only [cond_true, cond_false] <;> omega

theorem vcRegionAny_sound (hT : TabOk P T) (hm : P.follows .mixedOrders = true) {id : Nat} {ops : Array Oper} {K : Slots → Heap → Prop} {Q : Exit → Act → World → Prop}
    (hK : ∀ Γ H a w, SimE I0 β0 w0 n 0 0 (get Γ) H a w → K Γ H → Q .normal a w) {Γ : Slots} {H : Heap} {a : Act} {w : World} (hs : SimE I0 β0 w0 n 0 0 (get Γ) H a w) (h : vcRegionAny P T n ops K Γ H) :
    (Code.region id ops true).wp P Q a w := by
  refine wp_region_any hm ?_
  have hs := hs.drew
  have key : ∀ (lo : Nat) (H' : Heap), SimE I0 β0 w0 n lo (allocs ops.toList) (get Γ) H' a w.drew → vcAny P T n ops ops.size (List.range ops.size) lo K Γ H' → wpAny P .any ops Q ops.size (Array.replicate ops.size false) a w.drew := fun lo H' hs' h' =>
    vcAny_sound hT hK ops.size (List.range ops.size) lo _ Γ H' a w.drew _ (by simp) (fun k hk => by simp [hk]) (fun k hk => by simpa using hk) (by
      have := allocsIn_range (ops := ops) ops.toList 0 (fun j => by simp)
      rw [List.range_eq_range', ← Array.length_toList, this]; exact Nat.le_refl _) hs' h'
  unfold vcRegionAny at h
  split at h
  · rename_i h0
    exact key 0 H (by rw [h0]; exact hs) h
  · rename_i m h0
    rw [lenK_eq, forceH_eq] at h
    refine key H.length _ ?_ (by simpa using h)
    rw [h0]; exact hs.room (m + 1)

theorem vcCode_sound (hT : TabOk P T) (hm : P.follows .mixedOrders = true) (hD : DrawsOk P T n I0 β0 w0) (hl : β0.length ≤ nh) : ∀ (c : Code) (Q : Exit → Slots → Heap → Prop) (Q' : Exit → Act → World → Prop) (Γ : Slots) (H : Heap) (a : Act) (w : World),
    (∀ e Γ H a w, SimE I0 β0 w0 n 0 0 (get Γ) H a w → Q e Γ H → Q' e a w) → SimE I0 β0 w0 n 0 0 (get Γ) H a w → vcCode P T n nh c Q Γ H → c.wp P Q' a w := by
  intro c
  induction c with
  | skip => intro Q Q' Γ H a w hQ hs h; exact wp_skip (hQ _ _ _ _ _ hs h)
  | label l => intro Q Q' Γ H a w hQ hs h; exact wp_label (hQ _ _ _ _ _ hs h)
  | region id ops draw =>
    intro Q Q' Γ H a w hQ hs h
    obtain ⟨Γ, H, hg, h⟩ := h
    replace hs := hg _ _ _ _ _ hl hs
    rcases h with h | ⟨rfl, h⟩ | ⟨k, Γ2, H2, hg2, h⟩
    · exact vcRegion_sound hT hD (fun Γ H a w => hQ .normal Γ H a w) hs h
    · exact vcRegionAny_sound hT hm (fun Γ H a w => hQ .normal Γ H a w) hs h
    · replace hs := hg2 _ _ _ _ _ hl hs
      cases draw
      · refine wp_region ?_
        rw [List.range_eq_range', ← Array.length_toList]
        exact vcOps_sound hT (fun Γ H a w => hQ .normal Γ H a w) ops.toList 0 k _ [] Γ2 H2 a w (fun j => by simp) (Nat.le_refl _) (knOk_nil _) hs h
      · exact hD id ops (Q .normal) Q' k Γ2 H2 a w (fun Γ H a w => hQ .normal Γ H a w) hs h
  | seq x y ihx ihy =>
    intro Q Q' Γ H a w hQ hs h
    obtain ⟨Γ, H, hg, h⟩ := h
    replace hs := hg _ _ _ _ _ hl hs
    refine wp_seq (ihx _ _ Γ H a w (fun e Γ H a w hs hq => ?_) hs h)
    cases e <;> simp only [thenQ] at hq <;> simp only [Exit.then]
    case normal => exact ihy Q Q' Γ H a w hQ hs hq
    all_goals exact hQ _ _ _ _ _ hs hq
  | cond c x y ihx ihy =>
    intro Q Q' Γ H a w hQ hs h
    obtain ⟨Γ, H, hg, h⟩ := h
    replace hs := hg _ _ _ _ _ hl hs
    simp only [ev_eq] at h
    split at h
    · rename_i b hb
      obtain ⟨I, β, hs'⟩ := hs
      have hv := val_inv (evF_sound hs'.slot hb)
      exact wp_cond_split hv (fun e => ihx Q Q' Γ H a w hQ ⟨I, β, hs'⟩ (h.1 e)) (fun e => ihy Q Q' Γ H a w hQ ⟨I, β, hs'⟩ (h.2 e))
    · exact h.elim
  | block id c ih =>
    intro Q Q' Γ H a w hQ hs h
    obtain ⟨Γ, H, hg, h⟩ := h
    replace hs := hg _ _ _ _ _ hl hs
    refine wp_block (ih _ _ Γ H a w (fun e Γ H a w hs hq => ?_) hs h)
    cases e <;> simp only [inBlockQ] at hq <;> simp only [Exit.inBlock]
    case exit id' =>
      cases hb : Nat.beq id' id
      · rw [hb] at hq
        have : ¬ id' = id := fun e => by subst e; simp at hb
        rw [if_neg this]; exact hQ _ _ _ _ _ hs hq
      · rw [hb] at hq
        rw [if_pos (Nat.eq_of_beq_eq_true hb)]; exact hQ _ _ _ _ _ hs hq
    all_goals exact hQ _ _ _ _ _ hs hq
  | loop c ih =>
    intro Q Q' Γ H a w hQ hs h
    obtain ⟨Γ, H, hg, h⟩ := h
    replace hs := hg _ _ _ _ _ hl hs
    rcases h with h | ⟨m, h⟩
    case inr =>
      refine wp_loop_rounds m ?_
      clear hg
      induction m generalizing Γ H a w with
      | zero => exact h.elim
      | succ m ihm =>
        simp only [rounds] at h
        rw [rounds_succ]
        refine ih _ _ Γ H a w (fun e Γ H a w hs hq => ?_) hs h
        cases e <;> simp only [thenQ] at hq <;> simp only [Exit.then]
        case normal => exact ihm _ _ _ _ hs hq
        all_goals exact hQ _ _ _ _ _ hs hq
    obtain ⟨X, J, cond, μ, ⟨x0, hc0, hr0⟩, h⟩ := h
    let p : Act → World → Nat → Prop := fun a w m => ∃ x, cond x ∧ μ x = m ∧ SimE I0 β0 w0 n 0 0 (get (J x).sl) (J x).hp a w
    refine wp_loop (fun a w => ∃ m, p a w m) (fun a w => least (p a w)) ⟨_, x0, hc0, rfl, Sim.ref hl hr0 hs⟩ (fun a w hI => ?_)
    obtain ⟨x, hc, hm, hs'⟩ := least_is hI
    refine ih _ _ _ _ a w (fun e Γ H a' w' hs'' hq => ?_) hs' (h x hc)
    cases e <;> simp only [thenQ] at hq <;> simp only [Exit.then]
    case normal =>
      obtain ⟨x', hc', hlt, hr'⟩ := hq
      have hp : p a' w' (μ x') := ⟨x', hc', rfl, Sim.ref hl hr' hs''⟩
      exact ⟨⟨_, hp⟩, Nat.lt_of_le_of_lt (least_le hp) (by rw [← hm]; exact hlt)⟩
    all_goals exact hQ _ _ _ _ _ hs'' hq
  | scope c ih =>
    intro Q Q' Γ H a w hQ hs h
    obtain ⟨Γ, H, hg, h⟩ := h
    replace hs := hg _ _ _ _ _ hl hs
    refine wp_scope_straight (ih _ _ Γ H a w (fun e Γ H a w hs hq => ?_) hs h)
    cases e <;> simp only [noGotoQ] at hq <;> simp only [Exit.noGoto]
    all_goals exact hQ _ _ _ _ _ hs hq
  | exit id => intro Q Q' Γ H a w hQ hs h; exact wp_exit (hQ _ _ _ _ _ hs h)
  | ret =>
    intro Q Q' Γ H a w hQ hs h
    obtain ⟨Γ, H, hg, h⟩ := h
    exact wp_ret (hQ _ _ _ _ _ (hg _ _ _ _ _ hl hs) h)
  | _ => intros; rename_i h; exact absurd h (by simp [vcCode])

end
end Go.Cw

/-
  Cw, part Y: what a function hands back; a contract from the code.
-/
namespace Go.Cw
set_option linter.unusedVariables false
section
variable {P : Program} {T : Tab} {n nh : Nat}

theorem ble_same (m : Nat) : Nat.ble m m = true := by rw [Nat.ble_eq]; exact Nat.le_refl _

def resVar (tmps : Array Value) : ResultVar → Sem Value
  | .tmp t => pure (tmps.getD t undef)
  | .cell a t => do loadVar t (← asAddr (tmps.getD a undef))

theorem results_eq (fn : Func) (tmps : Array Value) : results fn tmps = (do
    let vs ← fn.results.mapM (resVar tmps)
    pure (if h : vs.size = 1 then vs[0] else .tuple vs)) := by
  unfold results
  congr 1

theorem resOf_sound (hT : TabOk P T) {I : Nat → Prop} {β : Beta} {w : World} {H : Heap} (hH : HSim I β H w) {Γ : Slots} {tmps : Array Value} (hs : ∀ s x, get Γ s = some x → ARel I β w x (tmps.getD s undef)) :
    ∀ (rs : List ResultVar) (vs : List AV), resOf T Γ H rs = some vs → ∃ us : List Value, (rs.mapM (resVar tmps)).run P w = .ok us w ∧ us.length = vs.length ∧ ∀ (j : Nat) c, vs[j]? = some c → ∃ u, us[j]? = some u ∧ ARel I β w c u
  | [], vs, h => by
    simp only [resOf, Option.some.injEq] at h; subst h
    exact ⟨[], by simp, rfl, fun j c hj => by simp at hj⟩
  | .tmp t :: l, vs, h => by
    simp only [resOf] at h
    split at h
    · rename_i v vs' hv hvs'
      injection h with h; subst h
      obtain ⟨us, hu, hlen, hr⟩ := resOf_sound hT hH hs l _ hvs'
      refine ⟨tmps.getD t undef :: us, by simp [List.mapM_cons, resVar, hu], by simp [hlen], fun j c hj => ?_⟩
      cases j with
      | zero => simp only [List.getElem?_cons_zero, Option.some.injEq] at hj; subst hj; exact ⟨_, rfl, hs _ _ hv⟩
      | succ j => simpa using hr j c (by simpa using hj)
    · cases h
  | .cell a t :: l, vs, h => by
    simp only [resOf] at h
    split at h
    · rename_i id z d vs' hv hd hvs'
      obtain ⟨size, bytes, agg, tk, zero⟩ := d
      obtain ⟨us, hu, hlen, hr⟩ := resOf_sound hT hH hs l _ hvs'
      obtain ⟨b, hb, hp⟩ := ptr_inv (hs _ _ hv)
      split at h
      · rename_i o ho
        obtain ⟨b', hb', hos⟩ := hH.obj id o ho
        have key : ∀ (x : AV), o.z = z → vcLoad T t (.ptr id o.z 0 0) H (fun r _ => r = x) → vs = x :: vs' → ∃ us : List Value, ((ResultVar.cell a t :: l).mapM (resVar tmps)).run P w = .ok us w ∧ us.length = vs.length ∧ ∀ (j : Nat) c, vs[j]? = some c → ∃ u, us[j]? = some u ∧ ARel I β w c u := fun x hz0 hx he => by
          subst he
          have hrel : ARel I β w (.ptr id o.z 0 0) (.pointer (some ⟨b.1, (0 + b.2) * o.z + 0, none⟩)) := .ptr hb
          obtain ⟨r, rd, rfl, u, hrun, hur⟩ := vcLoad_sound hT hH hrel hx
          rw [run_loadAt] at hrun
          have hp' : tmps.getD a undef = .pointer (some ⟨b.1, (0 + b.2) * o.z + 0, none⟩) := by rw [hp, hz0]
          refine ⟨u :: us, by simp only [List.mapM_cons, resVar, hp', asAddr, Sem.run_bind, Sem.run_pure, Result.andThen_ok, hrun, hu], by simp [hlen], fun j c hj => ?_⟩
          cases j with
          | zero => simp only [List.getElem?_cons_zero, Option.some.injEq] at hj; subst hj; exact ⟨_, rfl, hur⟩
          | succ j => simpa using hr j c (by simpa using hj)
        split at h
        · rename_i cs0 hzz hrows
          have hzz := Nat.eq_of_beq_eq_true hzz
          split at h
          · rename_i hagg hsz
            injection h with h
            simp only at hsz hagg; subst hagg
            have hsz := Nat.eq_of_beq_eq_true hsz
            refine key _ hzz ?_ h.symm
            subst hsz
            simp only [vcLoad, hd, ho, hrows, Nat.beq_refl, vcTake, List.drop_zero, ble_same]
            simp
          · rename_i hagg hsz
            injection h with h
            simp only at hsz hagg; subst hagg
            refine key _ hzz ?_ h.symm
            simp only [vcLoad, hd, ho, hrows, Nat.beq_refl, vcTake, List.drop_zero]
          · cases h
        · cases h
      · cases h
    · cases h

theorem argSlots_get : ∀ (l : List AV) (i s : Nat), get (argSlots i l) s = if i ≤ s then l[s - i]? else none
  | [], i, s => by simp [argSlots, get]
  | x :: l, i, s => by
    simp only [argSlots, get_cons, argSlots_get l (i + 1) s]
    by_cases h : i = s
    · subst h; simp
    · rw [if_neg h]
      by_cases h2 : i ≤ s
      · rw [if_pos h2, if_pos (by omega), show s - i = (s - (i + 1)) + 1 from by omega, List.getElem?_cons_succ]
      · rw [if_neg h2, if_neg (by omega)]

theorem retOk_sound {I0 I : Nat → Prop} {β0 β : Beta} {w0 w : World} {k : Nat} {r : AV} {H : Heap} {Post : AV → Heap → Prop} (hl : β0.length ≤ k) (hH : HSim I β H w) (he : Evo I0 β0 w0 I β w) {v : Value} (hr : ARel I β w r v) (h : retOk k r H Post) :
    ∃ r H' I' β', Post r H' ∧ HSim I' β' H' w ∧ ARel I' β' w r v ∧ Evo I0 β0 w0 I' β' w := by
  obtain ⟨rn, H', hd, ht, hk, h⟩ := h
  rcases h with ⟨r', rfl, hp⟩ | h
  · exact ⟨r', H', I, renB β rn, hp, hH.ren hd hk, ren_back (renB_back hH) rfl hr, he.ren hl ht⟩
  · split at h
    · rename_i r0 hc
      obtain ⟨hok, r', rfl, hdis, hp⟩ := h
      let J : Nat → Prop := fun b => I b ∨ ∃ id ∈ ids1 H r, ∃ c, β[id]? = some (some c) ∧ c.1 = b
      have hIJ : ∀ b, I b → J b := fun b h => .inl h
      have hJlt : ∀ b, J b → b < w.heap.size := fun b h => by
        rcases h with h | ⟨id, _, c, h, rfl⟩
        · exact hH.imm b h
        · exact hH.lt id c h
      have hd2 : ∀ x ∈ ids1 H r, x ∉ rn := fun x hx hxr => by
        simp only [disj, List.all_eq_true, Bool.not_eq_true'] at hdis
        have := hdis x hx x hxr
        simp at this
      have hS := hH.ren hd hk
      obtain ⟨hpl, hps⟩ := kept_spec hk
      have hE := he.ren hl ht
      refine ⟨r', H', J, renB β rn, hp, ⟨hS.len, fun i o ho => ?_, hS.inj, hJlt, hS.lt⟩, conv_sound hH hIJ hc hok hr (fun id hid b hb => .inr ⟨id, hid, b, hb, rfl⟩),
        ⟨hE.os, hE.tape, hE.output, hE.size, hE.pre, hE.fresh, hE.keep, fun b hb => ⟨(hE.keepI b hb).1, hIJ b (hE.keepI b hb).2⟩, fun b hb hJ => ?_, hE.shape⟩⟩
      · obtain ⟨b, hb, hos⟩ := hS.obj i o ho
        refine ⟨b, hb, hos.mono (fun b h => ⟨rfl, hIJ b h⟩) (fun _ _ h => h) (fun _ _ _ h => h) rfl (fun hJ => ?_)⟩
        rcases hJ with h | ⟨id, hid, c, h, hc⟩
        · exact h
        · exfalso
          obtain ⟨oid, hoid⟩ := ids1_live hid
          obtain ⟨i2, e2, e3⟩ := hps i o ho
          obtain ⟨i3, e4, e5⟩ := (renB_get i b).1 hb
          rw [e2] at e4; injection e4 with e4; subst e4
          have := hH.inj id i2 _ _ c b hoid e3 h e5 hc
          subst this
          exact hd2 id hid (List.mem_of_getElem? e2)
      · rcases hJ with h | ⟨id, hid, c, h, hc⟩
        · exact hE.old b hb h
        · rcases he.fresh id c h with h2 | ⟨j, c', h2, h3⟩
          · omega
          · exact .inr ⟨j, c', h2, h3.trans hc⟩
    · exact h.elim

/-- A contract from the code. -/
theorem acall_of_code (hT : TabOk P T) (hm : P.follows .mixedOrders = true) {f : FuncId} {fn : Func} {c : Code} {args : List AV} {H : Heap} {Post : AV → Heap → Prop} (hD : ∀ I0 β0 w0, DrawsOk P T fn.ntmps I0 β0 w0)
    (hfn : P.funcs[f]? = some fn) (hname : (fn.name == "runtime.NumGoroutine") = false) (hbody : fn.body = some c) (hlen : args.length ≤ fn.ntmps)
    (h : vcCode P T fn.ntmps H.length c (retQ T H.length fn Post) (argSlots 0 args) H) : ACall P f args H Post := by
  refine ⟨⟨fn, hfn, hname, by rw [hbody]; rfl⟩, fun I β w vs hH hvs hrel => ?_⟩
  refine calls_of_wp hfn hbody ?_
  have hs0 : SimE I β w fn.ntmps 0 0 (get (argSlots 0 args)) H { tmps := vs ++ Array.replicate (fn.ntmps - vs.size) undef, defers := [] } w := by
    refine ⟨I, β, hH, rfl, ?_, fun s x hx => ?_, Evo.refl I β w, fun s h1 h2 => by omega⟩
    · simp; omega
    · rw [argSlots_get, if_pos (Nat.zero_le _)] at hx
      have hlt := (List.getElem?_eq_some_iff.1 hx).1
      have hr := hrel s x (by simpa using hx)
      have e : (vs ++ Array.replicate (fn.ntmps - vs.size) undef).getD s undef = vs.getD s undef := by
        have h2 : s < vs.size := by omega
        have h1 : s < (vs ++ Array.replicate (fn.ntmps - vs.size) undef).size := by simp; omega
        simp only [Array.getD, h1, h2, dif_pos]
        exact Array.getElem_append_left h2
      rw [e]; exact hr
  refine vcCode_sound hT hm (hD I β w) (by rw [hH.len]; exact Nat.le_refl _) c _ _ _ _ _ w (fun e Γ H' a' w' hs hq => ?_) hs0 h
  obtain ⟨I', β', hs⟩ := hs
  have fin : ∀ (hq : match resOf T Γ H' fn.results.toList with
      | some [r] => retOk H.length r H' Post
      | some rs => retOk H.length (.tup rs) H' Post
      | none => False), a'.defers = [] ∧ ∃ v, (results fn a'.tmps).run P w' = .ok v w' ∧ ∃ r H2 I' β' v', Ending.returned v = .returned v' ∧ Post r H2 ∧ HSim I' β' H2 w' ∧ ARel I' β' w' r v' ∧ Evo I β w I' β' w' := fun hq => by
    refine ⟨hs.defers, ?_⟩
    have hl : β.length ≤ H.length := by rw [hH.len]; exact Nat.le_refl _
    cases hres : resOf T Γ H' fn.results.toList with
    | none => rw [hres] at hq; exact hq.elim
    | some rs =>
      obtain ⟨us, hu, hul, hur⟩ := resOf_sound hT hs.h hs.slot _ _ hres
      have hrun : ∀ v, v = (if h : us.toArray.size = 1 then us.toArray[0] else .tuple us.toArray) → (results fn a'.tmps).run P w' = .ok v w' := fun v hv => by
        subst hv
        rw [results_eq, Array.mapM_eq_mapM_toList]
        simp [hu]
      have many : retOk H.length (.tup rs) H' Post → us.length ≠ 1 → ∃ v, (results fn a'.tmps).run P w' = .ok v w' ∧ ∃ r H2 I' β' v', Ending.returned v = .returned v' ∧ Post r H2 ∧ HSim I' β' H2 w' ∧ ARel I' β' w' r v' ∧ Evo I β w I' β' w' := fun hq hne => by
        have hrel : ARel I' β' w' (.tup rs) (.tuple us.toArray) := .tup (by simpa using hul) fun j c hj => by
          obtain ⟨u, h1, h2⟩ := hur j c hj
          simpa [h1] using h2
        obtain ⟨r, H2, I2, β2, h1, h2, h3, h4⟩ := retOk_sound hl hs.h hs.evo hrel hq
        exact ⟨_, hrun _ (by rw [dif_neg (by simpa using hne)]), r, H2, I2, β2, _, rfl, h1, h2, h3, h4⟩
      rw [hres] at hq
      rcases rs with _ | ⟨r0, _ | ⟨b, l⟩⟩
      · exact many hq (by simp at hul; simp [hul])
      · obtain ⟨u, h1, h2⟩ := hur 0 r0 rfl
        obtain ⟨r, H2, I2, β2, h3, h4, h5, h6⟩ := retOk_sound hl hs.h hs.evo h2 hq
        have hlen1 : us.length = 1 := by simpa using hul
        refine ⟨u, hrun u ?_, r, H2, I2, β2, _, rfl, h3, h4, h5, h6⟩
        rw [dif_pos (by simpa using hlen1)]
        have h7 := (List.getElem?_eq_some_iff.1 h1).2
        simpa using h7.symm
      · exact many hq (by simp at hul; omega)
  cases e with
  | normal => exact fin hq
  | ret => exact fin hq
  | _ => exact absurd hq (by simp [retQ])

end
end Go.Cw

/-
  Cw, part Z: an operation does the same wherever what it looks at is the same.
-/
namespace Go.Cw
set_option linter.unusedVariables false
set_option linter.unusedSimpArgs false
section
variable {T : Tab} {H : Heap}

theorem intBin_pin {op : BinOp} {k : IntKind} {x y : Int} {K : AV → Prop} (h : intBin op k x y K) : ∃ r, K r ∧ ∀ K' : AV → Prop, K' r → intBin op k x y K' := by
  cases op <;> simp only [intBin, eqv_eq] at h ⊢ <;> first | exact h.elim | exact ⟨_, h, fun _ h => h⟩ | exact ⟨_, h.2, fun _ h' => ⟨h.1, h'⟩⟩
theorem strBin_pin {op : BinOp} {x y : ByteArray} {K : AV → Prop} (h : strBin op x y K) : ∃ r, K r ∧ ∀ K' : AV → Prop, K' r → strBin op x y K' := by
  cases op <;> simp only [strBin] at h ⊢ <;> first | exact h.elim | exact ⟨_, h, fun _ h => h⟩ | exact ⟨_, h.2, fun _ h' => ⟨h.1, h'⟩⟩
theorem eqBin_pin {op : BinOp} {tk : TK} {x y : AV} {K : AV → Prop} (h : eqBin op tk x y K) : ∃ r, K r ∧ ∀ K' : AV → Prop, K' r → eqBin op tk x y K' := by
  unfold eqBin at h
  split at h <;> first | exact h.elim | exact ⟨_, h, fun _ h => h⟩ | exact ⟨_, h.2, fun _ h' => ⟨h.1, h'⟩⟩
theorem vcBin_pin {op : BinOp} {t : TypeId} {x y : AV} {K : AV → Prop} (h : vcBin T op t x y K) : ∃ r, K r ∧ ∀ K' : AV → Prop, K' r → vcBin T op t x y K' := by
  unfold vcBin at h
  split at h
  · split at h
    · exact ⟨_, h.2, fun _ h' => ⟨h.1, h'⟩⟩
    · exact ⟨_, h.2, fun _ h' => ⟨h.1, h'⟩⟩
    · split at h
      · rename_i h1 h2 hk
        obtain ⟨r, h3, h4⟩ := intBin_pin h
        refine ⟨r, h3, fun K' h' => ?_⟩
        simp only [vcBin, hk]
        exact h4 K' h'
      · exact h.elim
  · exact strBin_pin h
  · split at h
    · rename_i hl
      obtain ⟨r, h3, h4⟩ := eqBin_pin h
      refine ⟨r, h3, fun K' h' => ?_⟩
      simp only [vcBin, hl]
      exact h4 K' h'
    · exact h.elim
theorem vcUn_pin {op : UnOp} {x : AV} {K : AV → Prop} (h : vcUn op x K) : ∃ r, K r ∧ ∀ K' : AV → Prop, K' r → vcUn op x K' := by
  unfold vcUn at h
  split at h <;> first | exact h.elim | exact ⟨_, h, fun _ h => h⟩ | (rw [eqv_eq] at h; exact ⟨_, h, fun K' h => by simp only [vcUn, eqv_eq]; exact h⟩)
theorem vcTake_pin {size : Nat} {agg : Bool} {cs : List AV} {K : AV → Prop} (h : vcTake size agg cs K) : ∃ r, K r ∧ ∀ K' : AV → Prop, K' r → vcTake size agg cs K' := by
  unfold vcTake at h
  split at h
  · split at h
    · rename_i hb
      exact ⟨_, h, fun K' h' => by simp only [vcTake, hb]; exact h'⟩
    · exact h.elim
  · split at h
    · exact ⟨_, h, fun K' h' => h'⟩
    · exact h.elim
theorem vcBuild_pin {t : TypeId} {parts : List (Nat × Operand)} {ρ : Operand → Option AV} {K : AV → Prop} (h : vcBuild T t parts ρ K) : ∃ r, K r ∧ ∀ K' : AV → Prop, K' r → vcBuild T t parts ρ K' := by
  unfold vcBuild at h
  split at h
  · split at h
    · split at h
      · rename_i h1 _ _ _ h2 h3
        exact ⟨_, h, fun K' h' => by simp only [vcBuild, h1, h2, h3]; exact h'⟩
      · exact h.elim
    · exact h.elim
  · exact h.elim
theorem vcIndexAddr_pin {t : TypeId} {x i : AV} {K : AV → Prop} (h : vcIndexAddr T t x i K) : ∃ r, K r ∧ ∀ K' : AV → Prop, K' r → vcIndexAddr T t x i K' := by
  unfold vcIndexAddr at h
  simp only [eqv_eq] at h
  split at h
  · rename_i h1
    split at h
    · split at h
      · rename_i h2
        split at h
        · rename_i h3
          obtain ⟨k, r, e1, e2, hk⟩ := h
          exact ⟨_, hk, fun K' h' => by simp only [vcIndexAddr, eqv_eq, h1, h2, h3]; exact ⟨k, r, e1, e2, h'⟩⟩
        · exact h.elim
      · exact h.elim
    · split at h
      · rename_i h2
        split at h
        · rename_i h3
          obtain ⟨k, e1, e2, hk⟩ := h
          exact ⟨_, hk, fun K' h' => by simp only [vcIndexAddr, eqv_eq, h1, h2, h3]; exact ⟨k, e1, e2, h'⟩⟩
        · exact h.elim
      · exact h.elim
    · exact h.elim
  · exact h.elim
theorem vcFieldAddr_pin {s : TypeId} {x : AV} {f : Nat} {K : AV → Prop} (h : vcFieldAddr T s x f K) : ∃ r, K r ∧ ∀ K' : AV → Prop, K' r → vcFieldAddr T s x f K' := by
  unfold vcFieldAddr at h
  split at h
  · rename_i h1
    split at h
    · split at h
      · rename_i h2
        split at h
        · rename_i h3
          split at h
          · rename_i h4
            split at h
            · split at h
              · rename_i h5
                exact ⟨_, h, fun K' h' => by simp only [vcFieldAddr, h1, h2, h3, h4, h5]; exact h'⟩
              · exact h.elim
            · exact ⟨_, h, fun K' h' => by simp only [vcFieldAddr, h1, h2, h3, h4]; exact h'⟩
            · exact h.elim
          · exact h.elim
        · exact h.elim
      · exact h.elim
    · exact h.elim
  · exact h.elim
theorem vcField_pin {s : TypeId} {x : AV} {f : Nat} {K : AV → Prop} (h : vcField T s x f K) : ∃ r, K r ∧ ∀ K' : AV → Prop, K' r → vcField T s x f K' := by
  unfold vcField at h
  split at h
  · rename_i h1
    split at h
    · split at h
      · rename_i h2
        split at h
        · rename_i h3
          obtain ⟨r, h4, h5⟩ := vcTake_pin h
          exact ⟨r, h4, fun K' h' => by simp only [vcField, h1, h2, h3]; exact h5 K' h'⟩
        · exact h.elim
      · exact h.elim
    · exact h.elim
  · exact h.elim
theorem vcLen_pin {t : TypeId} {x : AV} {K : AV → Prop} (h : vcLen T t x K) : ∃ r, K r ∧ ∀ K' : AV → Prop, K' r → vcLen T t x K' := by
  unfold vcLen at h
  simp only [eqv_eq] at h
  split at h
  · rename_i h1
    split at h <;> first | exact h.elim | exact ⟨_, h, fun K' h' => by simp only [vcLen, eqv_eq, h1]; exact h'⟩
  · exact h.elim
theorem vcSlice_pin {t : TypeId} {x : AV} {lo hi : Option AV} {K : AV → Prop} (h : vcSlice T t x lo hi K) : ∃ r, K r ∧ ∀ K' : AV → Prop, K' r → vcSlice T t x lo hi K' := by
  unfold vcSlice at h
  simp only [eqv_eq] at h
  split at h
  · rename_i h1
    split at h
    · split at h
      · rename_i h2
        split at h
        · rename_i h3
          obtain ⟨a, b, e1, e2, e3, e4, hk⟩ := h
          exact ⟨_, hk, fun K' h' => by simp only [vcSlice, eqv_eq, h1, h2, h3]; exact ⟨a, b, e1, e2, e3, e4, h'⟩⟩
        · exact h.elim
      · exact h.elim
    · split at h
      · rename_i h2
        split at h
        · rename_i h3
          obtain ⟨a, b, e1, e2, e3, e4, hk⟩ := h
          exact ⟨_, hk, fun K' h' => by simp only [vcSlice, eqv_eq, h1, h2, h3]; exact ⟨a, b, e1, e2, e3, e4, h'⟩⟩
        · exact h.elim
      · exact h.elim
    · obtain ⟨a, b, e1, e2, e3, e4, hk⟩ := h
      exact ⟨_, hk, fun K' h' => by simp only [vcSlice, eqv_eq, h1]; exact ⟨a, b, e1, e2, e3, e4, h'⟩⟩
    · exact h.elim
  · exact h.elim
theorem vcPick_pin {c : AV} {a b : Option AV} {K : AV → Prop} (h : vcPick c a b K) : ∃ r, K r ∧ ∀ K' : AV → Prop, K' r → vcPick c a b K' := by
  unfold vcPick at h
  split at h
  · rename_i t
    cases t
    · have h := h.2 rfl
      split at h
      · exact ⟨_, h, fun K' h' => by simp only [vcPick]; exact ⟨fun e => (by cases e), fun _ => h'⟩⟩
      · exact h.elim
    · have h := h.1 rfl
      split at h
      · exact ⟨_, h, fun K' h' => by simp only [vcPick]; exact ⟨fun _ => h', fun e => by cases e⟩⟩
      · exact h.elim
  · exact h.elim
theorem vcMinMax_pin {m : Bool} {xs : List (Option AV)} {K : AV → Prop} (h : vcMinMax m xs K) : ∃ r, K r ∧ ∀ K' : AV → Prop, K' r → vcMinMax m xs K' := by
  unfold vcMinMax at h
  split at h
  · split at h
    · rename_i h1
      exact ⟨_, h, fun K' h' => by simp only [vcMinMax, h1]; exact h'⟩
    · exact h.elim
  · exact h.elim
theorem vcMakeSlice_pin {t : TypeId} {site : Nat} {l c : AV} {K : AV → Upd → List Nat → Prop} (h : vcMakeSlice T t site l c K) : ∃ r u rd, K r u rd ∧ ∀ K' : AV → Upd → List Nat → Prop, K' r u rd → vcMakeSlice T t site l c K' := by
  unfold vcMakeSlice at h
  simp only [eqv_eq] at h
  split at h
  · rename_i h1
    split at h
    · split at h
      · rename_i h2
        obtain ⟨e0, j, k, e1, e2, e3, e4, e5, hk⟩ := h
        exact ⟨_, _, _, hk, fun K' h' => by simp only [vcMakeSlice, eqv_eq, h1, h2]; exact ⟨e0, j, k, e1, e2, e3, e4, e5, h'⟩⟩
      · exact h.elim
    · exact h.elim
  · exact h.elim

/-- With a heap: the objects that were read are the same. -/
def SameOn (rd : List Nat) (H H' : Heap) : Prop := ∀ id ∈ rd, H'[id]? = H[id]?

theorem vcLoad_pin {t : TypeId} {x : AV} {K : AV → List Nat → Prop} (h : vcLoad T t x H K) : ∃ r rd, K r rd ∧ ∀ (H' : Heap) (K' : AV → List Nat → Prop), SameOn rd H H' → K' r rd → vcLoad T t x H' K' := by
  unfold vcLoad at h
  split at h
  · exact h.elim
  · rename_i h1
    split at h
    · obtain ⟨r, h2, h3⟩ := vcTake_pin h
      exact ⟨r, _, h2, fun H' K' _ h' => by simp only [vcLoad, h1]; exact h3 (fun v => K' v []) h'⟩
    · rename_i id z row col
      split at h
      · rename_i o ho
        have same : ∀ {H' : Heap}, SameOn [id] H H' → H'[id]? = some (some o) := fun hs => (hs id (by simp)).trans ho
        split at h
        · rename_i cs hz hr
          split at h
          · obtain ⟨r, h2, h3⟩ := vcTake_pin h
            exact ⟨r, _, h2, fun H' K' hs h' => by simp only [vcLoad, h1, same hs, hz, hr]; exact h3 (fun v => K' v [id]) h'⟩
          · exact h.elim
        · rename_i xs hz hr
          obtain ⟨w, hw, h⟩ := h
          obtain ⟨r, h2, h3⟩ := vcTake_pin h
          exact ⟨r, _, h2, fun H' K' hs h' => by simp only [vcLoad, h1, same hs, hz, hr]; exact ⟨w, hw, h3 (fun v => K' v [id]) h'⟩⟩
        · rename_i xs hz hr
          obtain ⟨w, hw, h⟩ := h
          obtain ⟨r, h2, h3⟩ := vcTake_pin h
          exact ⟨r, _, h2, fun H' K' hs h' => by simp only [vcLoad, h1, same hs, hz, hr]; exact ⟨w, hw, h3 (fun v => K' v [id]) h'⟩⟩
        · exact h.elim
      · exact h.elim
    · exact h.elim

theorem vcStore_pin {t : TypeId} {x v : AV} {K : Upd → List Nat → Prop} (h : vcStore T t x v H K) : ∃ u rd, K u rd ∧ ∀ (H' : Heap) (K' : Upd → List Nat → Prop), SameOn rd H H' → K' u rd → vcStore T t x v H' K' := by
  unfold vcStore at h
  simp only [eqv_eq] at h
  split at h
  · exact h.elim
  · rename_i h1
    split at h
    · exact h.elim
    · rename_i h2
      split at h
      · rename_i id z row col
        split at h
        · rename_i o ho
          have same : ∀ {H' : Heap}, SameOn [id] H H' → H'[id]? = some (some o) := fun hs => (hs id (by simp)).trans ho
          split at h
          · exact h.elim
          · rename_i h3
            split at h
            · rename_i hr
              split at h
              · split at h
                · rename_i h4
                  exact ⟨_, _, h, fun H' K' hs h' => by simp only [vcStore, eqv_eq, h1, h2, same hs, h3, hr, h4]; exact h'⟩
                · exact h.elim
              · exact h.elim
            · rename_i hr
              split at h
              · rename_i h4
                obtain ⟨r, e1, e2, h⟩ := h
                exact ⟨_, _, h, fun H' K' hs h' => by simp only [vcStore, eqv_eq, h1, h2, same hs, h3, hr, h4]; exact ⟨r, e1, e2, h'⟩⟩
              · rename_i h4
                obtain ⟨r, e1, e2, h⟩ := h
                exact ⟨_, _, h, fun H' K' hs h' => by simp only [vcStore, eqv_eq, h1, h2, same hs, h3, hr, h4]; exact ⟨r, e1, e2, h'⟩⟩
            · rename_i hr
              obtain ⟨r, e1, e2, h⟩ := h
              exact ⟨_, _, h, fun H' K' hs h' => by simp only [vcStore, eqv_eq, h1, h2, same hs, h3, hr]; exact ⟨r, e1, e2, h'⟩⟩
        · exact h.elim
      · exact h.elim

theorem srcRows_same {x : AV} {r : Rows} {rd : List Nat} (h : srcRows H x = some (r, rd)) {H' : Heap} (hs : SameOn rd H H') : srcRows H' x = some (r, rd) := by
  unfold srcRows at h ⊢
  split at h
  · exact h
  · exact h
  · rename_i id z off len
    split at h
    · rename_i o ho
      have same : rd = [id] → H'[id]? = some (some o) := fun e => (hs id (by rw [e]; simp)).trans ho
      split at h
      · rename_i hz hr
        have hrd : rd = [id] := by injection h with h; injection h with _ h; exact h.symm
        simp only [same hrd, hz, hr]; exact h
      · rename_i hz hr
        have hrd : rd = [id] := by injection h with h; injection h with _ h; exact h.symm
        simp only [same hrd, hz, hr]; exact h
      · cases h
    · cases h
  · cases h

theorem vcAppend_pin {t : TypeId} {site : Nat} {s x : AV} {K : AV → Upd → List Nat → Prop} (h : vcAppend T t site s x H K) :
    ∃ r u rd, K r u rd ∧ ∀ (H' : Heap) (K' : AV → Upd → List Nat → Prop), SameOn rd H H' → K' r u rd → vcAppend T t site s x H' K' := by
  unfold vcAppend at h
  simp only [eqv_eq] at h
  split at h
  · rename_i h1
    split at h
    · split at h
      · rename_i h2
        split at h
        · rename_i rx rdx h3 h4
          split at h
          · obtain ⟨e1, e2, e3, hp, hz⟩ := h
            rcases Nat.eq_zero_or_pos (rowsLen rx) with h0 | h0
            · exact ⟨_, _, _, hz h0, fun H' K' hs h' => by simp only [vcAppend, eqv_eq, h1, h2, h3, srcRows_same h4 hs]; exact ⟨e1, e2, e3, fun h => by omega, fun _ => h'⟩⟩
            · exact ⟨_, _, _, hp h0, fun H' K' hs h' => by simp only [vcAppend, eqv_eq, h1, h2, h3, srcRows_same h4 hs]; exact ⟨e1, e2, e3, fun _ => h', fun h => by omega⟩⟩
          · rename_i id z off len
            split at h
            · rename_i o hz ho
              split at h
              · rename_i hf hc
                obtain ⟨e1, e2, e3, e4, hk⟩ := h
                refine ⟨_, _, _, hk, fun H' K' hs h' => ?_⟩
                have hs1 : SameOn rdx H H' := fun i hi => hs i (by simp [hi])
                have hs2 : H'[id]? = some (some o) := (hs id (by simp)).trans ho
                simp only [vcAppend, eqv_eq, h1, h2, h3, srcRows_same h4 hs1, hz, hs2, hf, hc]
                exact ⟨e1, e2, e3, e4, h'⟩
              · exact h.elim
            · exact h.elim
          · exact h.elim
        · exact h.elim
      · exact h.elim
    · exact h.elim
  · exact h.elim

theorem rowsOf_congr {ρ ρ' : Operand → Option AV} {z : Nat} : ∀ {l : List (Nat × Operand)} {i : Nat}, (∀ x ∈ l.map (·.2), ρ' x = ρ x) → rowsOf ρ' z i l = rowsOf ρ z i l
  | [], i, _ => rfl
  | (k, x) :: l, i, h => by
    have h1 := h x (by simp)
    have h2 : ∀ x ∈ l.map (·.2), ρ' x = ρ x := fun y hy => h y (by simp only [List.map_cons, List.mem_cons]; exact .inr hy)
    simp only [rowsOf, h1, rowsOf_congr h2]

theorem buildCells_congr {ρ ρ' : Operand → Option AV} {fs : List (Nat × TypeId)} : ∀ {l : List (Nat × Operand)} {cs : List AV}, (∀ x ∈ l.map (·.2), ρ' x = ρ x) → buildCells T fs ρ' cs l = buildCells T fs ρ cs l
  | [], cs, _ => rfl
  | (k, x) :: l, cs, h => by
    have h1 := h x (by simp)
    have h2 : ∀ x ∈ l.map (·.2), ρ' x = ρ x := fun y hy => h y (by simp only [List.map_cons, List.mem_cons]; exact .inr hy)
    have h3 : ∀ cs, buildCells T fs ρ' cs l = buildCells T fs ρ cs l := fun cs => buildCells_congr h2
    simp only [buildCells, h1, h3]

theorem vcBuild_congr {ρ ρ' : Operand → Option AV} {t : TypeId} {l : List (Nat × Operand)} {K : AV → Prop} (h : ∀ x ∈ l.map (·.2), ρ' x = ρ x) : vcBuild T t l ρ' K = vcBuild T t l ρ K := by
  have h3 : ∀ fs cs, buildCells T fs ρ' cs l = buildCells T fs ρ cs l := fun fs cs => buildCells_congr h
  simp only [vcBuild, h3]

theorem mapM_congr {ρ ρ' : Operand → Option AV} : ∀ {l : List Operand}, (∀ x ∈ l, ρ' x = ρ x) → l.mapM ρ' = l.mapM ρ
  | [], _ => rfl
  | x :: l, h => by
    have h1 := h x (by simp)
    have h2 : ∀ x ∈ l, ρ' x = ρ x := fun y hy => h y (by simp [hy])
    simp only [List.mapM_cons, h1, mapM_congr h2]

theorem mapO_congr {α γ : Type} {f f' : α → Option γ} : ∀ {l : List α}, (∀ x ∈ l, f' x = f x) → mapO f' l = mapO f l
  | [], _ => rfl
  | x :: l, h => by
    have h1 := h x (by simp)
    have h2 : ∀ x ∈ l, f' x = f x := fun y hy => h y (by simp [hy])
    simp only [mapO, h1, mapO_congr h2]

theorem vcOp_pin {site : Nat} {op : Op} {ρ : Operand → Option AV} {K : AV → Upd → List Nat → Prop} (h : vcOp T site op ρ H K) :
    ∃ r u rd, K r u rd ∧ ∀ (ρ' : Operand → Option AV) (H' : Heap) (K' : AV → Upd → List Nat → Prop), (∀ x ∈ op.operands, ρ' x = ρ x) → SameOn rd H H' → K' r u rd → vcOp T site op ρ' H' K' := by
  have o1 : ∀ {ρ' : Operand → Option AV} {x : Operand} {l : Array Operand}, (∀ x ∈ l, ρ' x = ρ x) → x ∈ l → ρ' x = ρ x := fun h hx => h _ hx
  cases op with
  | move x =>
    simp only [vcOp] at h
    split at h
    · rename_i v hv
      exact ⟨_, _, _, h, fun ρ' H' K' he _ h' => by simp only [vcOp, he x (by simp [Op.operands]), hv]; exact h'⟩
    · exact h.elim
  | assign x =>
    simp only [vcOp] at h
    split at h
    · rename_i v hv
      exact ⟨_, _, _, h, fun ρ' H' K' he _ h' => by simp only [vcOp, he x (by simp [Op.operands]), hv]; exact h'⟩
    · exact h.elim
  | pick c a b =>
    simp only [vcOp] at h
    split at h
    · rename_i v hv
      obtain ⟨r, h1, h2⟩ := vcPick_pin h
      exact ⟨_, _, _, h1, fun ρ' H' K' he _ h' => by simp only [vcOp, he c (by simp [Op.operands]), he a (by simp [Op.operands]), he b (by simp [Op.operands]), hv]; exact h2 (fun v => K' v [] []) h'⟩
    · exact h.elim
  | alloc t =>
    simp only [vcOp] at h
    split at h
    · rename_i hv
      exact ⟨_, _, _, h.2, fun ρ' H' K' he _ h' => by simp only [vcOp, hv]; exact ⟨h.1, h'⟩⟩
    · exact h.elim
  | box t x =>
    simp only [vcOp] at h
    split at h
    · rename_i h1 h2
      split at h
      · rename_i h3
        exact ⟨_, _, _, h, fun ρ' H' K' he _ h' => by simp only [vcOp, he x (by simp [Op.operands]), h1, h2, h3]; exact h'⟩
      · exact h.elim
    · exact h.elim
  | build t ps =>
    simp only [vcOp] at h
    obtain ⟨r, h1, h2⟩ := vcBuild_pin h
    exact ⟨_, _, _, h1, fun ρ' H' K' he _ h' => by
      simp only [vcOp]
      rw [vcBuild_congr (fun x hx => he x (by simpa [Op.operands] using hx))]
      exact h2 (fun v => K' v [] []) h'⟩
  | buildSlice t n ps =>
    simp only [vcOp] at h
    split at h
    · rename_i h1
      split at h
      · split at h
        · rename_i h2
          split at h
          · rename_i h3
            split at h
            · rename_i h4
              exact ⟨_, _, _, h, fun ρ' H' K' he _ h' => by
                simp only [vcOp, h1, h2]
                rw [rowsOf_congr (fun x hx => he x (by simpa [Op.operands] using hx))]
                simp only [h3, h4]; exact h'⟩
            · exact h.elim
          · exact h.elim
        · exact h.elim
      · exact h.elim
    · exact h.elim
  | load t x =>
    simp only [vcOp] at h
    split at h
    · rename_i v hv
      obtain ⟨r, rd, h1, h2⟩ := vcLoad_pin h
      exact ⟨_, _, _, h1, fun ρ' H' K' he hs h' => by simp only [vcOp, he x (by simp [Op.operands]), hv]; exact h2 H' (fun r f => K' r [] f) hs h'⟩
    · exact h.elim
  | store t a x =>
    simp only [vcOp] at h
    split at h
    · rename_i v hv hv2
      obtain ⟨r, rd, h1, h2⟩ := vcStore_pin h
      exact ⟨_, _, _, h1, fun ρ' H' K' he hs h' => by simp only [vcOp, he x (by simp [Op.operands]), he a (by simp [Op.operands]), hv, hv2]; exact h2 H' (fun u f => K' _ u f) hs h'⟩
    · exact h.elim
  | nilCheck x =>
    simp only [vcOp] at h
    split at h <;> first
      | exact h.elim
      | (rename_i hv; exact ⟨_, _, _, h, fun ρ' H' K' he hs h' => by simp only [vcOp, he x (by simp [Op.operands]), hv]; exact h'⟩)
  | binOp op t x y z =>
    simp only [vcOp] at h
    split at h
    · rename_i hv hv2
      obtain ⟨r, h1, h2⟩ := vcBin_pin h
      exact ⟨_, _, _, h1, fun ρ' H' K' he hs h' => by simp only [vcOp, he x (by simp [Op.operands]), he y (by simp [Op.operands]), hv, hv2]; exact h2 (fun v => K' v [] []) h'⟩
    · exact h.elim
  | unOp op t x =>
    simp only [vcOp] at h
    split at h
    · rename_i hv
      obtain ⟨r, h1, h2⟩ := vcUn_pin h
      exact ⟨_, _, _, h1, fun ρ' H' K' he hs h' => by simp only [vcOp, he x (by simp [Op.operands]), hv]; exact h2 (fun v => K' v [] []) h'⟩
    · exact h.elim
  | makeFunc fn first caps =>
    cases fn with
    | func f =>
      simp only [vcOp] at h
      split at h
      · rename_i h1 h2
        exact ⟨_, _, _, h, fun ρ' H' K' he hs h' => by
          simp only [vcOp, h1]
          rw [mapM_congr (fun x hx => he x (by simp only [Op.operands, Array.mem_append]; exact .inr (by simpa using hx)))]
          simp only [h2]; exact h'⟩
      · exact h.elim
    | _ => exact h.elim
  | makeSlice t l c =>
    simp only [vcOp] at h
    split at h
    · rename_i hv hv2
      obtain ⟨r, u, rd, h1, h2⟩ := vcMakeSlice_pin h
      exact ⟨_, _, _, h1, fun ρ' H' K' he hs h' => by simp only [vcOp, he l (by simp [Op.operands]), he c (by simp [Op.operands]), hv, hv2]; exact h2 K' h'⟩
    · exact h.elim
  | slice t x lo hi mx =>
    cases mx with
    | some m => exact h.elim
    | none =>
      simp only [vcOp] at h
      split at h
      · rename_i hv
        cases lo with
        | none =>
          cases hi with
          | none =>
            obtain ⟨r, h1, h2⟩ := vcSlice_pin h
            exact ⟨_, _, _, h1, fun ρ' H' K' he hs h' => by simp only [vcOp, he x (by simp [Op.operands]), hv]; exact h2 (fun v => K' v [] []) h'⟩
          | some b =>
            simp only at h
            split at h
            · rename_i hv2
              obtain ⟨r, h1, h2⟩ := vcSlice_pin h
              exact ⟨_, _, _, h1, fun ρ' H' K' he hs h' => by simp only [vcOp, he x (by simp [Op.operands]), he b (by simp [Op.operands]), hv, hv2]; exact h2 (fun v => K' v [] []) h'⟩
            · exact h.elim
        | some a =>
          cases hi with
          | none =>
            simp only at h
            split at h
            · rename_i hv2
              obtain ⟨r, h1, h2⟩ := vcSlice_pin h
              exact ⟨_, _, _, h1, fun ρ' H' K' he hs h' => by simp only [vcOp, he x (by simp [Op.operands]), he a (by simp [Op.operands]), hv, hv2]; exact h2 (fun v => K' v [] []) h'⟩
            · exact h.elim
          | some b =>
            simp only at h
            split at h
            · rename_i hv2 hv3
              obtain ⟨r, h1, h2⟩ := vcSlice_pin h
              exact ⟨_, _, _, h1, fun ρ' H' K' he hs h' => by simp only [vcOp, he x (by simp [Op.operands]), he a (by simp [Op.operands]), he b (by simp [Op.operands]), hv, hv2, hv3]; exact h2 (fun v => K' v [] []) h'⟩
            · exact h.elim
      · exact h.elim
  | fieldAddr s x f =>
    simp only [vcOp] at h
    split at h
    · rename_i hv
      obtain ⟨r, h1, h2⟩ := vcFieldAddr_pin h
      exact ⟨_, _, _, h1, fun ρ' H' K' he hs h' => by simp only [vcOp, he x (by simp [Op.operands]), hv]; exact h2 (fun v => K' v [] []) h'⟩
    · exact h.elim
  | field s x f =>
    simp only [vcOp] at h
    split at h
    · rename_i hv
      obtain ⟨r, h1, h2⟩ := vcField_pin h
      exact ⟨_, _, _, h1, fun ρ' H' K' he hs h' => by simp only [vcOp, he x (by simp [Op.operands]), hv]; exact h2 (fun v => K' v [] []) h'⟩
    · exact h.elim
  | indexAddr t x i =>
    simp only [vcOp] at h
    split at h
    · rename_i hv hv2
      obtain ⟨r, h1, h2⟩ := vcIndexAddr_pin h
      exact ⟨_, _, _, h1, fun ρ' H' K' he hs h' => by simp only [vcOp, he x (by simp [Op.operands]), he i (by simp [Op.operands]), hv, hv2]; exact h2 (fun v => K' v [] []) h'⟩
    · exact h.elim
  | extract x i =>
    simp only [vcOp] at h
    split at h
    · rename_i hv
      split at h
      · rename_i hv2
        exact ⟨_, _, _, h, fun ρ' H' K' he hs h' => by simp only [vcOp, he x (by simp [Op.operands]), hv, hv2]; exact h'⟩
      · exact h.elim
    · exact h.elim
  | call c =>
    obtain ⟨callee, args, ats⟩ := c
    cases callee with
    | builtin b =>
      have ho : ∀ {ρ' : Operand → Option AV}, (∀ x ∈ (Op.call ⟨.builtin b, args, ats⟩).operands, ρ' x = ρ x) → ∀ x ∈ args.toList, ρ' x = ρ x := fun he x hx => he x (by simpa [Op.operands, Call.operands] using hx)
      cases b with
      | len =>
        simp only [vcOp] at h
        split at h
        · rename_i x t h1 h2
          split at h
          · rename_i hv
            obtain ⟨r, h3, h4⟩ := vcLen_pin h
            exact ⟨_, _, _, h3, fun ρ' H' K' he hs h' => by simp only [vcOp, h1, h2, ho he x (by rw [h1]; simp), hv]; exact h4 (fun v => K' v [] []) h'⟩
          · exact h.elim
        · exact h.elim
      | append =>
        simp only [vcOp] at h
        split at h
        · rename_i s x t t2 h1 h2
          split at h
          · rename_i hv0 hv hv2
            obtain ⟨r, u, rd, h3, h4⟩ := vcAppend_pin h
            exact ⟨_, _, _, h3, fun ρ' H' K' he hs h' => by simp only [vcOp, h1, h2, ho he x (by rw [h1]; simp), ho he s (by rw [h1]; simp), hv0, hv, hv2]; exact h4 H' K' hs h'⟩
          · exact h.elim
        · exact h.elim
      | min =>
        simp only [vcOp] at h
        obtain ⟨r, h3, h4⟩ := vcMinMax_pin h
        exact ⟨_, _, _, h3, fun ρ' H' K' he hs h' => by simp only [vcOp]; rw [List.map_congr_left (ho he)]; exact h4 (fun v => K' v [] []) h'⟩
      | max =>
        simp only [vcOp] at h
        obtain ⟨r, h3, h4⟩ := vcMinMax_pin h
        exact ⟨_, _, _, h3, fun ρ' H' K' he hs h' => by simp only [vcOp]; rw [List.map_congr_left (ho he)]; exact h4 (fun v => K' v [] []) h'⟩
      | _ => exact h.elim
    | _ => exact h.elim
  | _ => exact h.elim

end
end Go.Cw

/-
  Cw, part PA: what an operation of a statement that draws does, wherever its footprint is the same.
-/
namespace Go.Cw
set_option linter.unusedVariables false
set_option linter.unusedSimpArgs false
section
variable {P : Program} {T : Tab} {n nh : Nat}

theorem evF_same {g g' : Nat → Option AV} {ops : Array Oper} {o : Oper} (h : ∀ s ∈ o.looksAt ops, g' s = g s) : ∀ x ∈ o.op.operands, evF g' x = evF g x := fun x hx => by
  cases x with
  | tmp t => exact h t (List.mem_append_left _ (List.mem_filterMap.2 ⟨.tmp t, by simpa using hx, rfl⟩))
  | _ => rfl

/-- A guard is decided wherever what it looks at is the same. -/
theorem vcGuard_dec {ops : Array Oper} {g : Nat → Option AV} {Γ : Slots} (hg : get Γ = g) {dc : Known} (hk : KnOk dc g) {o : Oper} {run skip : Known → Prop} (h : vcGuard ops.toList Γ dc o.guard run skip) :
    ∃ b : Bool, (∀ (g' : Nat → Option AV) (a : Act) (I : Nat → Prop) (β : Beta) (w : World), (∀ s ∈ o.looksAt ops, g' s = g s) → (∀ s x, g' s = some x → ARel I β w x (a.tmps.getD s undef)) → Region.wanted o (yielded ops a.tmps) = b) ∧
      ∃ dc', KnOk dc' g ∧ if b then run dc' else skip dc' := by
  have use : ∀ {dc' : Known} {b : Bool}, KnOk dc' g → (if b then run dc' else skip dc') → (∀ (a : Act) (I : Nat → Prop) (β : Beta) (w : World) (g' : Nat → Option AV), (∀ s ∈ o.looksAt ops, g' s = g s) → (∀ s x, g' s = some x → ARel I β w x (a.tmps.getD s undef)) → Region.wanted o (yielded ops a.tmps) = b) → _ :=
    fun {dc' b} h1 h2 h3 => (⟨b, fun g' a I β w hs hr => h3 a I β w g' hs hr, dc', h1, h2⟩ : ∃ b : Bool, (∀ (g' : Nat → Option AV) (a : Act) (I : Nat → Prop) (β : Beta) (w : World), (∀ s ∈ o.looksAt ops, g' s = g s) → (∀ s x, g' s = some x → ARel I β w x (a.tmps.getD s undef)) → Region.wanted o (yielded ops a.tmps) = b) ∧
      ∃ dc', KnOk dc' g ∧ if b then run dc' else skip dc')
  unfold vcGuard at h
  split at h
  · rename_i hgd
    exact use (b := true) hk h fun a I β w g' _ _ => by simp [Region.wanted, hgd]
  · rename_i j want hgd
    split at h
    · rename_i o' ho'
      split at h
      · rename_i d hd
        have ho2 : ops[j]? = some o' := by simpa using ho'
        have hin : d ∈ o.looksAt ops := by
          simp [Oper.looksAt, hgd, ho2, hd]
        have wn : ∀ b : Bool, g d = some (vbool b) → ∀ (a : Act) (I : Nat → Prop) (β : Beta) (w : World) (g' : Nat → Option AV), (∀ s ∈ o.looksAt ops, g' s = g s) → (∀ s x, g' s = some x → ARel I β w x (a.tmps.getD s undef)) → Region.wanted o (yielded ops a.tmps) = (b == want) := fun b hb a I β w g' hsame hs => by
          have hv := val_inv (hs d _ ((hsame d hin).trans hb))
          have hlt : d < a.tmps.size := by
            rcases Nat.lt_or_ge d a.tmps.size with h | h
            · exact h
            · simp [Array.getD, Nat.not_lt.2 h, undef] at hv
          have h2 : a.tmps[d]? = some (.bool b) := by
            simp [hlt] at hv
            simp [hlt, hv]
          simp [Region.wanted, hgd, yielded, ho2, hd, h2]
        have cons : ∀ b : Bool, g d = some (vbool b) → KnOk ((d, b) :: dc) g := fun b hb s b' hs' => by
          simp only [kn] at hs'
          cases hbeq : Nat.beq d s
          · rw [hbeq] at hs'; exact hk s b' (by simpa using hs')
          · rw [hbeq] at hs'
            have := Nat.eq_of_beq_eq_true hbeq; subst this
            simp only [cond_true, Option.some.injEq] at hs'; subst hs'
            exact hb
        split at h
        · rename_i b hkn
          have hb := hk _ _ hkn
          split at h
          · exact use (b := true) hk h (wn _ hb)
          · exact use (b := true) hk h (wn _ hb)
          · rename_i hne1 hne2
            refine use (b := false) hk h fun a I β w g' h1 h2 => ?_
            rw [wn _ hb a I β w g' h1 h2]
            cases b <;> cases want <;> first | rfl | exact absurd rfl (hne1 · rfl) | exact absurd rfl (hne2 · rfl)
        · split at h
          · rename_i b hb
            rw [hg] at hb
            have hb : g d = some (vbool b) := hb
            split at h
            · cases b
              · exact use (b := false) (cons _ hb) (h.2 rfl) (wn _ hb)
              · exact use (b := true) (cons _ hb) (h.1 rfl) (wn _ hb)
            · cases b
              · exact use (b := true) (cons _ hb) (h.1 rfl) (wn _ hb)
              · exact use (b := false) (cons _ hb) (h.2 rfl) (wn _ hb)
          · rename_i vs hb
            rw [hg] at hb
            refine use (b := false) hk h fun a I β w g' hsame hs => ?_
            have hv := val_inv (hs d _ ((hsame d hin).trans hb))
            have : yielded ops a.tmps j = none := by
              have h2 : a.tmps[d]? = some (.tuple vs) ∨ a.tmps[d]? = none := by
                rcases Nat.lt_or_ge d a.tmps.size with h | h
                · left; simp [h] at hv; simp [h, hv]
                · right; simp [h]
              rcases h2 with h2 | h2 <;> simp [yielded, ho2, hd, h2]
            simp [Region.wanted, hgd, this]
          · exact h.elim
      · exact h.elim
    · exact h.elim

/-! The pure form of a value depends on the objects that are read. -/
theorem flatMap_congr {α γ : Type} {f f' : α → List γ} : ∀ {l : List α}, (∀ x ∈ l, f' x = f x) → l.flatMap f' = l.flatMap f
  | [], _ => rfl
  | x :: l, h => by
    have ih : l.flatMap f' = l.flatMap f := flatMap_congr (fun y hy => h y (by simp [hy]))
    simp only [List.flatMap_cons, h x (by simp), ih]

theorem andL_congr {f f' : AV → Prop} : ∀ {l : List AV}, (∀ x ∈ l, f' x = f x) → andL f' l = andL f l
  | [], _ => rfl
  | .pv p :: l, h => by simp only [andL]; exact andL_congr (fun y hy => h y (by simp [hy]))
  | .agg cs :: l, h => by simp only [andL]; rw [h _ (by simp), andL_congr (fun y hy => h y (by simp [hy]))]
  | .ms .. :: l, h => by simp only [andL]; rw [h _ (by simp), andL_congr (fun y hy => h y (by simp [hy]))]
  | .ptr .. :: l, h => by simp only [andL]; rw [h _ (by simp), andL_congr (fun y hy => h y (by simp [hy]))]
  | .fn .. :: l, h => by simp only [andL]; rw [h _ (by simp), andL_congr (fun y hy => h y (by simp [hy]))]
  | .tup .. :: l, h => by simp only [andL]; rw [h _ (by simp), andL_congr (fun y hy => h y (by simp [hy]))]
  | .dead :: l, h => by simp only [andL]; rw [h _ (by simp), andL_congr (fun y hy => h y (by simp [hy]))]

theorem SameOn.sub {rd rd' : List Nat} {H H' : Heap} (h : SameOn rd H H') (hs : ∀ x ∈ rd', x ∈ rd) : SameOn rd' H H' := fun id hid => h id (hs id hid)

theorem same_convC {H H' : Heap} : ∀ (n : Nat) (x : AV), SameOn (rdsC H n x) H H' → convC H' n x = convC H n x ∧ (okC H' n x = okC H n x) ∧ idsC H' n x = idsC H n x
  | 0, x, h => by cases x <;> exact ⟨rfl, rfl, rfl⟩
  | n + 1, .pv p, h => ⟨rfl, rfl, rfl⟩
  | n + 1, .agg cs, h => ⟨rfl, rfl, rfl⟩
  | n + 1, .tup cs, h => ⟨rfl, rfl, rfl⟩
  | n + 1, .dead, h => ⟨rfl, rfl, rfl⟩
  | n + 1, .fn f caps, h => by
    have ih : ∀ x ∈ caps, convC H' n x = convC H n x ∧ (okC H' n x = okC H n x) ∧ idsC H' n x = idsC H n x := fun x hx =>
      same_convC n x (h.sub fun id hid => by simp only [rdsC, List.mem_flatMap]; exact ⟨x, hx, hid⟩)
    simp only [convC, okC, idsC]
    rw [mapO_congr (fun x hx => (ih x hx).1), andL_congr (fun x hx => (ih x hx).2.1), flatMap_congr (fun x hx => (ih x hx).2.2)]
    exact ⟨rfl, rfl, rfl⟩
  | n + 1, .ms id z off len, h => by
    have h0 : H'[id]? = H[id]? := h id (by simp only [rdsC]; split <;> simp)
    simp only [convC, okC, idsC, h0]
    cases hH : H[id]? with
    | none => exact ⟨rfl, rfl, rfl⟩
    | some oo => cases oo with
      | none => exact ⟨rfl, rfl, rfl⟩
      | some o =>
        obtain ⟨ty, oz, fz, rows⟩ := o
        cases rows with
        | box cs => refine ⟨?_, rfl, rfl⟩; simp only; cases Nat.beq oz z <;> rfl
        | p xs => refine ⟨?_, rfl, rfl⟩; simp only; cases Nat.beq oz z <;> rfl
        | m xs =>
          have ih : ∀ r ∈ (xs.drop off).take len, ∀ x ∈ r, convC H' n x = convC H n x ∧ (okC H' n x = okC H n x) ∧ idsC H' n x = idsC H n x := fun r hr x hx =>
            same_convC n x (h.sub fun i hi => by
              simp only [rdsC, hH, List.mem_cons, List.mem_flatMap]
              exact .inr ⟨r, hr, x, hx, hi⟩)
          refine ⟨?_, ?_, ?_⟩
          · have e : mapO (mapO (convC H' n)) ((xs.drop off).take len) = mapO (mapO (convC H n)) ((xs.drop off).take len) := mapO_congr (fun r hr => mapO_congr (fun x hx => (ih r hr x hx).1))
            simp only
            cases Nat.beq oz z
            · rfl
            · simp only [e]
          · simp only [eq_iff_iff]
            refine and_congr Iff.rfl (forall_congr' fun r => forall_congr' fun hr => ?_)
            rw [andL_congr (fun x hx => (ih r hr x hx).2.1)]
          · simp only
            rw [flatMap_congr (fun r hr => flatMap_congr (fun x hx => (ih r hr x hx).2.2))]
  | n + 1, .ptr id z row col, h => by
    have h0 : H'[id]? = H[id]? := h id (by simp only [rdsC]; split <;> simp)
    simp only [convC, okC, idsC, h0]
    cases hH : H[id]? with
    | none => exact ⟨rfl, rfl, rfl⟩
    | some oo => cases oo with
      | none => exact ⟨rfl, rfl, rfl⟩
      | some o =>
        obtain ⟨ty, oz, fz, rows⟩ := o
        cases rows with
        | m cs => exact ⟨by cases hz : Nat.beq oz z <;> simp only [hz], rfl, rfl⟩
        | p xs => exact ⟨by cases hz : Nat.beq oz z <;> simp only [hz], rfl, rfl⟩
        | box cs =>
          have ih : ∀ x ∈ cs.drop col, convC H' n x = convC H n x ∧ (okC H' n x = okC H n x) ∧ idsC H' n x = idsC H n x := fun x hx =>
            same_convC n x (h.sub fun i hi => by
              simp only [rdsC, hH, List.mem_cons, List.mem_flatMap]
              exact .inr ⟨x, hx, hi⟩)
          refine ⟨?_, ?_, ?_⟩
          · have e : mapO (convC H' n) (cs.drop col) = mapO (convC H n) (cs.drop col) := mapO_congr (fun x hx => (ih x hx).1)
            cases hz : Nat.beq oz z
            · simp only [hz]
            · cases row
              · simp only [hz, e]
              · simp only [hz]
          · simp only
            rw [andL_congr (fun x hx => (ih x hx).2.1)]
          · simp only
            rw [flatMap_congr (fun x hx => (ih x hx).2.2)]

theorem same_conv0 {H H' : Heap} (x : AV) (h : SameOn (rds0 H x) H H') : conv1 H' x = conv1 H x ∧ (ok0 H' x = ok0 H x) ∧ ids0 H' x = ids0 H x := by
  cases x with
  | agg cs =>
    have ih : ∀ x ∈ cs, _ := fun x hx => same_convC 5 x (h.sub fun id hid => by simp only [rds0, List.mem_flatMap]; exact ⟨x, hx, hid⟩)
    simp only [conv1, ok0, ids0]
    rw [mapO_congr (fun x hx => (ih x hx).1), andL_congr (fun x hx => (ih x hx).2.1), flatMap_congr (fun x hx => (ih x hx).2.2)]
    exact ⟨rfl, rfl, rfl⟩
  | _ =>
    simp only [rds0] at h
    obtain ⟨h1, h2, h3⟩ := same_convC 5 _ h
    simp only [conv1, ok0, ids0]
    rw [h1, h2, h3]
    exact ⟨rfl, rfl, rfl⟩

theorem same_conv {H H' : Heap} (x : AV) (h : SameOn (rds1 H x) H H') : conv H' x = conv H x ∧ (ok1 H' x = ok1 H x) ∧ ids1 H' x = ids1 H x := by
  cases x with
  | tup cs =>
    have ih : ∀ x ∈ cs, _ := fun x hx => same_conv0 x (h.sub fun id hid => by simp only [rds1, List.mem_flatMap]; exact ⟨x, hx, hid⟩)
    simp only [conv, ok1, ids1]
    rw [mapO_congr (fun x hx => (ih x hx).1), andL_congr (fun x hx => (ih x hx).2.1), flatMap_congr (fun x hx => (ih x hx).2.2)]
    exact ⟨rfl, rfl, rfl⟩
  | _ =>
    simp only [rds1] at h
    obtain ⟨h1, h2, h3⟩ := same_conv0 _ h
    simp only [conv, ok1, ids1]
    rw [h1, h2, h3]
    exact ⟨rfl, rfl, rfl⟩

end
end Go.Cw

/-
  Cw, part PB: the operations of a statement that draws, each with what it does.
-/
namespace Go.Cw
set_option linter.unusedVariables false
set_option linter.unusedSimpArgs false
section
variable {P : Program} {T : Tab} {n nh : Nat}

structure Tr where
  dst : Option Tmp
  L : List Nat
  r : AV
  u : Upd
  rd : List Nat
  site : Option Nat

abbrev St := (Nat → Option AV) × Heap

def Tr.step (t : Tr) (s : St) : St := (gput s.1 t.dst t.r, app s.2 t.u)

def runS (S : Nat → Bool) : Nat → List Tr → St → St
  | _, [], s => s
  | i, t :: l, s => runS S (i + 1) l (bif S i then t.step s else s)

/-- What follows the operation. -/
def Does (P : Program) (ops : Array Oper) (o : Oper) (t : Tr) (s : St) : Prop :=
  ∀ (g' : Nat → Option AV) (H' : Heap) (I : Nat → Prop) (β : Beta) (a : Act) (w : World) (next : Act → World → Prop) (Q : Exit → Act → World → Prop),
    (∀ x ∈ t.L, g' x = s.1 x) → SameOn t.rd s.2 H' → H'.length = s.2.length → HSim I β H' w → (∀ s x, g' s = some x → ARel I β w x (a.tmps.getD s undef)) → (∀ s, t.site = some s → β[s]? = some none) →
    (∀ v I' β' w', HSim I' β' (app H' t.u) w' → ARel I' β' w' t.r v → Evo I β w I' β' w' → (∀ s : Nat, β[s]? = some none → t.site ≠ some s → β'[s]? = some none) → next (a.put o.dst v) w') →
    if Region.wanted o (yielded ops a.tmps) = true then o.wp P a w next Q else next (a.put o.dst undef) w

theorem taken_app {d : Nat} {rn : List Nat} : ∀ {ids : List Nat} {Hc H : Heap}, Hc.length = ids.length → taken d rn ids Hc H = app H (updOf d rn ids Hc)
  | [], [], H, _ => by simp [taken, updOf, app]
  | [], x :: l, H, h => by simp at h
  | i :: l, [], H, h => by simp at h
  | i :: l, o :: Hc, H, h => by
    simp only [taken, updOf, app]
    exact taken_app (by simpa using h)

theorem passed_same {H H' : Heap} {d : Nat} {rn : List Nat} : ∀ {ids : List Nat} {Hc : Heap}, SameOn ids H H' → passed H d rn ids Hc → passed H' d rn ids Hc
  | [], [], _, _ => trivial
  | [], x :: l, _, h => by cases x <;> exact h
  | i :: l, [], _, h => h
  | i :: l, none :: Hc, _, h => h
  | i :: l, some o :: Hc, hs, h => ⟨(hs i (by simp)).trans h.1, passed_same (hs.sub fun x hx => by simp [hx]) h.2⟩

/-- A call in a statement that draws. -/
theorem vcFunD0_pin {f : FuncId} {args : List AV} {H : Heap} {K : AV → Upd → List Nat → Prop} (h : vcFunD0 P f args H K) : ∃ r u rd, K r u rd ∧
    ∀ (H' : Heap), SameOn rd H H' → H'.length = H.length → vcFun0 P f args H' (fun r' H2 => r' = r ∧ H2 = app H' u) := by
  rcases h with h | ⟨ids, Hc, as, r, Hc', h1, h2, h3, h4, h5, h6⟩
  · split at h
    · rename_i as0 hc
      obtain ⟨hok, as, r, he, hp, hsc, hk⟩ := h
      refine ⟨r, [], _, hk, fun H' hs hl => ?_⟩
      have ih : ∀ x ∈ args, conv H' x = conv H x ∧ (ok1 H' x = ok1 H x) ∧ ids1 H' x = ids1 H x := fun x hx => same_conv x (hs.sub fun id hid => List.mem_flatMap.2 ⟨x, hx, hid⟩)
      refine .inl ?_
      rw [mapO_congr (fun x hx => (ih x hx).1), hc, andL_congr (fun x hx => (ih x hx).2.1)]
      refine ⟨hok, as, _, he, hp, fun r' hr' => ?_⟩
      subst hr'
      have hids : args.flatMap (ids1 H') = args.flatMap (ids1 H) := flatMap_congr (fun x hx => (ih x hx).2.2)
      rcases Bool.or_eq_true_iff.1 hsc with h | h
      · exact .inl ⟨h, rfl, rfl⟩
      · refine .inr ⟨rfl, ?_⟩
        rw [hids, List.isEmpty_iff.1 h]; rfl
    · exact h.elim
  · refine ⟨_, _, _, h6, fun H' hs hl => .inr ⟨ids, Hc, as, _, h1, by rw [hl]; exact passed_same hs h2, by rw [hl]; exact h3, h4, fun r' Hx hp => ?_⟩⟩
    obtain ⟨rfl, rfl⟩ := hp
    refine ⟨by omega, ?_, ?_⟩
    · rw [h5, Nat.sub_self]; simp [tabl]
    · rw [h5, Nat.sub_self]; simp only [tabl, List.append_nil]; exact taken_app h5

theorem vcFunD_pin {f : FuncId} {args : List AV} {H : Heap} {K : AV → Upd → List Nat → Prop} (h : vcFunD P f args H K) : ∃ r u rd, K r u rd ∧
    ∀ (H' : Heap), SameOn rd H H' → H'.length = H.length → vcFun P f args H' (fun r' H2 => r' = r ∧ H2 = app H' u) := by
  obtain ⟨as, hle, h⟩ := h
  obtain ⟨r, u, rd, h1, h2⟩ := vcFunD0_pin h
  exact ⟨r, u, rd, h1, fun H' e1 e2 => ⟨as, hle, h2 H' e1 e2⟩⟩

/-- The call is entered. -/
theorem call_enter {I : Nat → Prop} {β : Beta} {w : World} {a : Act} {g : Nat → Option AV} (hs : ∀ s x, g s = some x → ARel I β w x (a.tmps.getD s undef)) {o : Oper} {f : Operand} {args : Array Operand} {ats : Array TypeId}
    (hop : o.op = .call { callee := .value f, args := args, argTypes := ats }) {fv : AV} {vs : List AV} (hfv : evF g f = some fv) (hvs : mapO (evF g) args.toList = some vs) {fid : FuncId} {caps : List AV}
    (hfc : fv = .fn fid caps ∨ ∃ ps, fv = .pv (.fn fid ps) ∧ caps = pvs ps) : ∃ vals : Array Value, vals.size = (vs ++ caps).length ∧ (∀ (j : Nat) c, (vs ++ caps)[j]? = some c → ARel I β w c (vals.getD j undef)) ∧
      (Enterable P fid → (execOp a.eval o).run P w = .ok (.enter fid vals) w) := by
  have hρ : ∀ x v, evF g x = some v → ARel I β w v (a.eval x) := fun x v hx => evF_sound hs hx
  have hm : vs.length = args.toList.length ∧ ∀ (j : Nat) y, vs[j]? = some y → ∃ x, args.toList[j]? = some x ∧ evF g x = some y := mapO_spec hvs
  obtain ⟨cv, hcv, hcl2, hcr⟩ := func_inv hfc (hρ _ _ hfv)
  refine ⟨args.map a.eval ++ cv, by simp [hm.1, hcl2], fun j c hj => ?_, fun hent => ?_⟩
  · rcases Nat.lt_or_ge j vs.length with h | h
    · rw [List.getElem?_append_left h] at hj
      obtain ⟨x, hx, hxe⟩ := hm.2 j c hj
      have hlt : j < args.size := by have := (List.getElem?_eq_some_iff.1 hx).1; simpa using this
      have e : (args.map a.eval ++ cv).getD j undef = a.eval x := by
        have hx2 : args[j] = x := by simpa [hlt] using hx
        have h1 : j < (args.map a.eval ++ cv).size := by simp; omega
        simp only [Array.getD, h1, dif_pos]
        show (args.map a.eval ++ cv)[j] = _
        rw [Array.getElem_append_left (by simpa using hlt)]
        simp [hx2]
      rw [e]; exact hρ _ _ hxe
    · rw [List.getElem?_append_right h] at hj
      have hlt := (List.getElem?_eq_some_iff.1 hj).1
      have hsz : vs.length = args.size := by simpa using hm.1
      have e : (args.map a.eval ++ cv).getD j undef = cv.getD (j - vs.length) undef := by
        have h1 : j < (args.map a.eval ++ cv).size := by simp; omega
        have h2 : j - vs.length < cv.size := by omega
        simp only [Array.getD, h1, h2, dif_pos]
        show (args.map a.eval ++ cv)[j] = cv[j - vs.length]
        rw [Array.getElem_append_right (by simp; omega)]
        simp [hsz]
      rw [e]; exact hcr _ c hj
  · obtain ⟨fn, hfn, hname, hbody⟩ := hent
    have hcf : (callFunc fid (args.map a.eval ++ cv)).run P w = .ok (.enter fid (args.map a.eval ++ cv)) w := by
      unfold callFunc
      simp only [Sem.run_bind, run_program, Result.andThen_ok, hfn, hname, Bool.false_eq_true, if_false, hbody, Sem.run_pure]
    simp only [execOp, hop, resolve, hcv, Deferred.ofValue, Sem.run_bind, Sem.run_pure, Result.andThen_ok, invoke]
    simpa using hcf

/-- What one step leaves. -/
def Stepped (P : Program) (ops : Array Oper) (dc : Known) (lo : Nat) (o : Oper) (s : St) (K : Slots → Heap → List Nat × List Nat → Prop) : Prop :=
  ∃ t : Tr, t.dst = o.dst ∧ t.L = o.looksAt ops ∧ t.site = (bif isAlloc o.op then some lo else none) ∧ (∀ b, knRes dc o.op = some b → t.r = vbool b) ∧
    (∃ Γ', get Γ' = (t.step s).1 ∧ K Γ' (t.step s).2 (t.rd, keysOf t.u)) ∧ Does P ops o t s

/-- One operation. -/
theorem vcStepD_does (hT : TabOk P T) {ops : Array Oper} {lo : Nat} {g : Nat → Option AV} {Γ : Slots} (hg : get Γ = g) {H : Heap} {dc : Known} (hk : KnOk dc g) {o : Oper} {K : Slots → Heap → List Nat × List Nat → Prop}
    (h : vcStepD P T lo o.dst (simpOp dc o.op) Γ H K) (hw : ∀ (g' : Nat → Option AV) (a : Act) (I : Nat → Prop) (β : Beta) (w : World), (∀ s ∈ o.looksAt ops, g' s = g s) → (∀ s x, g' s = some x → ARel I β w x (a.tmps.getD s undef)) → Region.wanted o (yielded ops a.tmps) = true) :
    Stepped P ops dc lo o (g, H) K := by
  have hcl : ∀ {c : Call}, o.op = .call c → knRes dc o.op = none := fun e => by rw [e]; rfl
  unfold vcStepD at h
  split at h
  · rename_i f args ats hop
    have hop' : o.op = .call { callee := .value f, args := args, argTypes := ats } := by
      have hop := hop
      cases ho : o.op <;> rw [ho] at hop <;> simp only [simpOp] at hop <;> try (cases hop; done)
      · split at hop <;> cases hop
      · exact hop
    have hia : isAlloc o.op = false := by rw [hop']; rfl
    rw [ev_eq, hg] at h
    split at h
    · rename_i fv vs hfv hvs
      have key : ∀ {fid : FuncId} {caps : List AV}, (fv = .fn fid caps ∨ ∃ ps, fv = .pv (.fn fid ps) ∧ caps = pvs ps) → vcFunD P fid (vs ++ caps) H (fun r u rd => putK Γ o.dst r fun Γ' => appK H u fun H2 => K Γ' H2 (rd, keysOf u)) → Stepped P ops dc lo o (g, H) K := by
        intro fid caps hfc hcall
        obtain ⟨r, u, rd, hk2, hp⟩ := vcFunD_pin hcall
        rw [putK_eq, appK_eq] at hk2
        refine ⟨⟨o.dst, o.looksAt ops, r, u, rd, none⟩, rfl, rfl, by rw [hia]; rfl, fun b hb => (by rw [hcl hop'] at hb; cases hb), ⟨_, by rw [get_put, hg]; rfl, hk2⟩, ?_⟩
        intro g' H' I β a w next Q h1 h2 h3 h4 h5 h6 h7
        rw [if_pos (hw g' a I β w h1 h5)]
        have hsame := evF_same (ops := ops) (o := o) (g := g) (g' := g') h1
        have hsf : evF g' f = some fv := by rw [hsame f (by rw [hop']; simp [Op.operands, Call.operands])]; exact hfv
        have hsa : mapO (evF g') args.toList = some vs := by
          rw [mapO_congr (fun x hx => hsame x (by rw [hop']; simp only [Op.operands, Call.operands]; simp at hx; simp [hx]))]; exact hvs
        obtain ⟨vals, hl, hrel, hrun⟩ := call_enter (P := P) h5 hop' hsf hsa hfc
        obtain ⟨hent, hout⟩ := vcFun_sound h4 hl hrel (hp H' h2 h3)
        unfold Oper.wp
        rw [hrun hent]
        simp only [Oper.upon]
        refine hout.mono fun e w' he => ?_
        obtain ⟨r', H2, I', β', v, rfl, ⟨rfl, rfl⟩, hH2, hr2, hevo, hfr⟩ := he
        exact h7 v I' β' w' hH2 hr2 hevo fun s hs _ => hfr s hs
      unfold vcCallD at h
      split at h
      · exact key (.inr ⟨_, rfl, rfl⟩) h
      · exact key (.inl rfl) h
      · exact h.elim
    · exact h.elim
  · have hop : vcOp T lo o.op (evF g) H fun r u rd => (putK Γ o.dst r fun Γ' => appK H u fun H2 => K Γ' H2 (rd, keysOf u)) ∧ ∀ b, knRes dc o.op = some b → r = vbool b := by
      rw [ev_eq, hg] at h
      exact kn_op hk h
    obtain ⟨r, u, rd, ⟨hk2, hkb⟩, hp⟩ := vcOp_pin hop
    rw [putK_eq, appK_eq] at hk2
    refine ⟨⟨o.dst, o.looksAt ops, r, u, rd, bif isAlloc o.op then some lo else none⟩, rfl, rfl, rfl, hkb, ⟨_, by rw [get_put, hg]; rfl, hk2⟩, ?_⟩
    intro g' H' I β a w next Q h1 h2 h3 h4 h5 h6 h7
    rw [if_pos (hw g' a I β w h1 h5)]
    have hop2 := hp (evF g') H' (fun r' u' rd' => r' = r ∧ u' = u) (evF_same h1) h2 ⟨rfl, rfl⟩
    obtain ⟨r', u', rd', ⟨rfl, rfl⟩, nx, v, w', hrun, hnx, I', β', hH', hr', hevo, hfr⟩ := vcOp_sound hT h4 (fun x v hx => evF_sound h5 hx) (o := o) (site := lo) (fun hal => h6 lo (by simp only [hal, cond_true])) hop2
    have hfin : next (a.put o.dst v) w' := h7 v I' β' w' hH' hr' hevo fun s hs hne => by
      refine hfr s hs fun e => ?_
      cases hia : isAlloc o.op
      · rw [hia] at e
        have := (List.getElem?_eq_some_iff.1 hs).1
        simp only [cond_false] at e; omega
      · rw [hia] at e hne
        simp only [cond_true] at e hne
        exact hne (by rw [e])
    unfold Oper.wp
    rw [hrun]
    rcases hnx with rfl | ⟨rfl, rfl⟩
    · exact hfin
    · exact hfin

end
end Go.Cw

/-
  Cw, part PC: whatever order is drawn, the same is done.
-/
namespace Go.Cw
set_option linter.unusedVariables false
set_option linter.unusedSimpArgs false
section
variable {P : Program} {T : Tab} {n nh : Nat}

theorem app_get_ne : ∀ {u : Upd} {H : Heap} {i : Nat}, i ∉ keysOf u → (app H u)[i]? = H[i]?
  | [], H, i, _ => rfl
  | (k, o) :: u, H, i, h => by
    simp only [keysOf, List.mem_cons, not_or] at h
    simp only [app]
    rw [app_get_ne h.2, List.getElem?_set_ne (fun e => h.1 e.symm)]

theorem app_get_congr : ∀ {u : Upd} {H H' : Heap} {i : Nat}, H.length = H'.length → H[i]? = H'[i]? → (app H u)[i]? = (app H' u)[i]?
  | [], H, H', i, _, h => h
  | (k, o) :: u, H, H', i, hl, h => by
    simp only [app]
    refine app_get_congr (by simpa using hl) ?_
    by_cases hk : k = i
    · subst hk
      simp only [List.getElem?_set_self', h]
    · rw [List.getElem?_set_ne hk, List.getElem?_set_ne hk, h]

theorem app_comm {u u' : Upd} {H : Heap} (h : ∀ x ∈ keysOf u, x ∉ keysOf u') : app (app H u) u' = app (app H u') u := by
  apply List.ext_getElem?
  intro i
  by_cases hi : i ∈ keysOf u
  · rw [app_get_ne (h i hi)]
    exact app_get_congr (by rw [app_length]) (app_get_ne (h i hi)).symm
  · rw [app_get_ne (u := u) hi]
    exact app_get_congr (by rw [app_length]) (app_get_ne hi)

theorem gput_ne {g : Nat → Option AV} {d : Option Tmp} {v : AV} {x : Nat} (h : d ≠ some x) : gput g d v x = g x := by
  cases d with
  | none => rfl
  | some t => simp only [gput]; rw [if_neg]; intro e; exact h (by rw [e])

theorem gput_congr {g g' : Nat → Option AV} {d : Option Tmp} {v : AV} {x : Nat} (h : g x = g' x) : gput g d v x = gput g' d v x := by
  cases d with
  | none => exact h
  | some t => simp only [gput, h]

theorem gput_comm {g : Nat → Option AV} {d d' : Option Tmp} {v v' : AV} (h : ∀ x, d = some x → d' ≠ some x) : gput (gput g d v) d' v' = gput (gput g d' v') d v := by
  funext x
  by_cases hx : d = some x
  · rw [gput_ne (h x hx)]
    exact gput_congr (gput_ne (h x hx)).symm
  · rw [gput_ne (d := d) hx]
    exact gput_congr (gput_ne hx)

def Apart (t t' : Tr) : Prop := (∀ x, t.dst = some x → t'.dst ≠ some x) ∧ ∀ x ∈ keysOf t.u, x ∉ keysOf t'.u

theorem step_comm {t t' : Tr} {s : St} (h : Apart t t') : t'.step (t.step s) = t.step (t'.step s) := by
  unfold Tr.step
  simp only
  rw [gput_comm h.1, app_comm h.2]

theorem runS_comm {S : Nat → Bool} {t : Tr} : ∀ {l : List Tr} {i : Nat} {s : St}, (∀ (k : Nat) t', l[k]? = some t' → S (i + k) = true → Apart t t') → runS S i l (t.step s) = t.step (runS S i l s)
  | [], i, s, _ => rfl
  | t1 :: l, i, s, h => by
    simp only [runS]
    have h' : ∀ (k : Nat) t', l[k]? = some t' → S (i + 1 + k) = true → Apart t t' := fun k t' hk hs => h (k + 1) t' (by simpa using hk) (by rw [← hs]; congr 1; omega)
    cases hS : S i
    · simp only [cond_false]; exact runS_comm h'
    · simp only [cond_true]
      rw [step_comm (h 0 t1 rfl (by simpa using hS))]
      exact runS_comm h'

theorem runS_congr {S S' : Nat → Bool} : ∀ {l : List Tr} {i : Nat} {s : St}, (∀ k, k < l.length → S (i + k) = S' (i + k)) → runS S i l s = runS S' i l s
  | [], i, s, _ => rfl
  | t1 :: l, i, s, h => by
    simp only [runS]
    have h0 : S i = S' i := by have := h 0 (by simp); simpa using this
    rw [h0]
    exact runS_congr fun k hk => by have := h (k + 1) (by simpa using hk); rwa [show i + (k + 1) = i + 1 + k from by omega] at this

theorem runS_insert {S : Nat → Bool} {t : Tr} : ∀ {l : List Tr} {i j : Nat} {s : St}, l[j]? = some t → S (i + j) = false → (∀ (k : Nat) t', j < k → l[k]? = some t' → S (i + k) = true → Apart t t') →
    runS (fun m => S m || m == i + j) i l s = t.step (runS S i l s)
  | [], i, j, s, h, _, _ => by simp at h
  | t1 :: l, i, 0, s, h, hS, hc => by
    simp only [List.getElem?_cons_zero, Option.some.injEq] at h
    subst h
    simp only [Nat.add_zero] at hS
    simp only [runS, hS, Nat.add_zero, beq_self_eq_true, Bool.or_true, cond_true, cond_false]
    rw [← runS_comm fun k t' hk hs => hc (k + 1) t' (by omega) (by simpa using hk) (by rw [← hs]; congr 1; omega)]
    exact runS_congr fun k hk => by
      have : ((i + 1 + k) == i) = false := by simp; omega
      rw [this, Bool.or_false]
  | t1 :: l, i, j + 1, s, h, hS, hc => by
    simp only [runS]
    have h0 : (S i || i == i + (j + 1)) = S i := by
      have : (i == i + (j + 1)) = false := by simp
      rw [this, Bool.or_false]
    rw [h0]
    have := runS_insert (S := S) (t := t) (l := l) (i := i + 1) (j := j) (s := bif S i then t1.step s else s) (by simpa using h) (by rw [← hS]; congr 1; omega)
      (fun k t' hk hl hs => hc (k + 1) t' (by omega) (by simpa using hl) (by rw [← hs]; congr 1; omega))
    rw [show i + (j + 1) = i + 1 + j from by omega]
    exact this

theorem runS_len {S : Nat → Bool} : ∀ {l : List Tr} {i : Nat} {s : St}, (runS S i l s).2.length = s.2.length
  | [], i, s => rfl
  | t :: l, i, s => by
    simp only [runS]
    rw [runS_len]
    cases S i
    · rfl
    · exact app_length _ _

theorem runS_slot {S S' : Nat → Bool} {x : Nat} : ∀ {l : List Tr} {i : Nat} {s s' : St}, s.1 x = s'.1 x → (∀ (k : Nat) t, l[k]? = some t → S (i + k) ≠ S' (i + k) → t.dst ≠ some x) → (runS S i l s).1 x = (runS S' i l s').1 x
  | [], i, s, s', h, _ => h
  | t :: l, i, s, s', h, hc => by
    simp only [runS]
    refine runS_slot ?_ fun k t' hk hne => hc (k + 1) t' (by simpa using hk) (by rwa [show i + (k + 1) = i + 1 + k from by omega])
    have h0 := hc 0 t rfl
    simp only [Nat.add_zero] at h0
    cases hS : S i <;> cases hS' : S' i <;> simp only [cond_true, cond_false, Tr.step]
    · exact h
    · rw [gput_ne (h0 (by rw [hS, hS']; simp)), h]
    · rw [gput_ne (h0 (by rw [hS, hS']; simp)), h]
    · exact gput_congr h

theorem runS_obj {S S' : Nat → Bool} {x : Nat} : ∀ {l : List Tr} {i : Nat} {s s' : St}, s.2.length = s'.2.length → s.2[x]? = s'.2[x]? → (∀ (k : Nat) t, l[k]? = some t → S (i + k) ≠ S' (i + k) → x ∉ keysOf t.u) → (runS S i l s).2[x]? = (runS S' i l s').2[x]?
  | [], i, s, s', _, h, _ => h
  | t :: l, i, s, s', hl, h, hc => by
    simp only [runS]
    have h0 := hc 0 t rfl
    simp only [Nat.add_zero] at h0
    refine runS_obj ?_ ?_ fun k t' hk hne => hc (k + 1) t' (by simpa using hk) (by rwa [show i + (k + 1) = i + 1 + k from by omega])
    · cases S i <;> cases S' i <;> simp only [cond_true, cond_false, Tr.step, app_length, hl]
    · cases hS : S i <;> cases hS' : S' i <;> simp only [cond_true, cond_false, Tr.step]
      · exact h
      · rw [app_get_ne (h0 (by rw [hS, hS']; simp)), h]
      · rw [app_get_ne (h0 (by rw [hS, hS']; simp)), h]
      · exact app_get_congr hl h

theorem runS_none {S : Nat → Bool} : ∀ {l : List Tr} {i : Nat} {s : St}, (∀ k, i ≤ k → S k = false) → runS S i l s = s
  | [], i, s, _ => rfl
  | t :: l, i, s, h => by
    simp only [runS, h i (Nat.le_refl _), cond_false]
    exact runS_none fun k hk => h k (by omega)

/-- The trace in the text's order. -/
def Traced (P : Program) (ops : Array Oper) (n : Nat) (KD : List (List Nat × List Nat) → Slots → Heap → Prop) (l : List Oper) (i lo : Nat) (s : St) (fs : List (List Nat × List Nat)) : Prop := ∃ tr : List Tr, tr.length = l.length ∧
  (∃ Γ', get Γ' = (runS (fun _ => true) i tr s).1 ∧ KD ((tr.map fun t => (t.rd, keysOf t.u)).reverse ++ fs) Γ' (runS (fun _ => true) i tr s).2) ∧
  (∀ (k : Nat) t o, tr[k]? = some t → l[k]? = some o → t.dst = o.dst ∧ t.L = o.looksAt ops ∧ dstOk n o = true ∧ Does P ops o t (runS (fun m => decide (m < i + k)) i tr s)) ∧
  (∀ (k : Nat) t s, tr[k]? = some t → t.site = some s → lo ≤ s ∧ s < lo + allocs l) ∧
  (∀ (k k' : Nat) t t' s, tr[k]? = some t → tr[k']? = some t' → t.site = some s → t'.site = some s → k = k')

theorem vcOpsD_trace (hT : TabOk P T) {ops : Array Oper} {KD : List (List Nat × List Nat) → Slots → Heap → Prop} : ∀ (l : List Oper) (i lo : Nat) (dc : Known) (Γ : Slots) (H : Heap) (fs : List (List Nat × List Nat)),
    KnOk dc (get Γ) → vcOpsD P T n ops.toList l lo KD fs dc Γ H → Traced P ops n KD l i lo (get Γ, H) fs
  | [], i, lo, dc, Γ, H, fs, hk, h => ⟨[], rfl, ⟨Γ, rfl, h⟩, fun k t o h => by simp at h, fun k t s h => by simp at h, fun k k' t t' s h => by simp at h⟩
  | o :: l, i, lo, dc, Γ, H, fs, hk, h => by
    -- what one step and the rest give
    have glue : ∀ (t : Tr) (lo' : Nat) (dc' : Known) (Γ' : Slots), lo ≤ lo' → lo' + allocs l ≤ lo + allocs (o :: l) → (∀ s, t.site = some s → lo ≤ s ∧ s < lo') → t.dst = o.dst → t.L = o.looksAt ops → dstOk n o = true → Does P ops o t (get Γ, H) →
        KnOk dc' (get Γ') → get Γ' = (t.step (get Γ, H)).1 → vcOpsD P T n ops.toList l lo' KD ((t.rd, keysOf t.u) :: fs) dc' Γ' (t.step (get Γ, H)).2 → Traced P ops n KD (o :: l) i lo (get Γ, H) fs := fun t lo' dc' Γ' hlo hhi hsite hd hL hdn hdoes hk' hget hrest => by
      obtain ⟨tr, e1, ⟨Γf, e2, e3⟩, e4, e5, e6⟩ := vcOpsD_trace hT l (i + 1) lo' dc' Γ' _ _ hk' hrest
      have hst : ((get Γ', (t.step (get Γ, H)).2) : St) = t.step (get Γ, H) := by rw [hget]
      rw [hst] at e2 e3 e4
      exact ⟨t :: tr, by simp [e1], ⟨Γf, by simpa [runS] using e2, by simpa [runS] using e3⟩, fun k t' o' hk1 hk2 => by
        cases k with
        | zero =>
          simp only [List.getElem?_cons_zero, Option.some.injEq] at hk1 hk2
          subst hk1; subst hk2
          refine ⟨hd, hL, hdn, ?_⟩
          rw [runS_none fun k hk => by simp; omega]
          exact hdoes
        | succ k =>
          obtain ⟨g1, g2, g3, g4⟩ := e4 k t' o' (by simpa using hk1) (by simpa using hk2)
          refine ⟨g1, g2, g3, ?_⟩
          simp only [runS]
          rw [show decide (i < i + (k + 1)) = true from by simp, cond_true, show (fun m => decide (m < i + (k + 1))) = (fun m => decide (m < i + 1 + k)) from by funext m; congr 1; simp; omega]
          exact g4, fun k t' s hk1 hs => by
        cases k with
        | zero =>
          simp only [List.getElem?_cons_zero, Option.some.injEq] at hk1
          subst hk1
          have := hsite s hs; omega
        | succ k => have := e5 k t' s (by simpa using hk1) hs; omega, fun k k' t1 t2 s hk1 hk2 hs1 hs2 => by
        cases k with
        | zero =>
          cases k' with
          | zero => rfl
          | succ k' =>
            simp only [List.getElem?_cons_zero, Option.some.injEq] at hk1
            subst hk1
            have a1 := hsite s hs1
            have a2 := e5 k' t2 s (by simpa using hk2) hs2
            omega
        | succ k =>
          cases k' with
          | zero =>
            simp only [List.getElem?_cons_zero, Option.some.injEq] at hk2
            subst hk2
            have a1 := hsite s hs2
            have a2 := e5 k t1 s (by simpa using hk1) hs1
            omega
          | succ k' => rw [e6 k k' t1 t2 s (by simpa using hk1) (by simpa using hk2) hs1 hs2]⟩
    have one : ∀ (lo' : Nat), (bif isAlloc o.op then lo + 1 else lo) = lo' → dstOk n o = true →
        vcGuard ops.toList Γ dc o.guard (fun dc' => knPut dc' o fun d2 => vcStepD P T lo o.dst (simpOp dc' o.op) Γ H fun Γ' H' f => vcOpsD P T n ops.toList l lo' KD (f :: fs) d2 Γ' H')
          (fun dc' => knSkip dc' o fun d2 => putK Γ o.dst (.pv (.val undef)) fun Γ' => vcOpsD P T n ops.toList l lo' KD (([], []) :: fs) d2 Γ' H) → Traced P ops n KD (o :: l) i lo (get Γ, H) fs := fun lo' hlo hd hg => by
      have hb : lo ≤ lo' ∧ lo' + allocs l ≤ lo + allocs (o :: l) := by
        simp only [allocs]
        cases e : isAlloc o.op <;> rw [e] at hlo <;> simp only [cond_true, cond_false] at hlo ⊢ <;> omega
      obtain ⟨b, hdec, dc', hk', hbr⟩ := vcGuard_dec rfl hk hg
      cases b
      · simp only [Bool.false_eq_true, if_false] at hbr
        obtain ⟨d2, h2, h3⟩ := knSkip_spec hk' hbr
        rw [putK_eq] at h2
        refine glue ⟨o.dst, o.looksAt ops, .pv (.val undef), [], [], none⟩ lo' d2 _ hb.1 hb.2 (fun s hs => by cases hs) rfl rfl hd ?_ (by rw [get_put]; exact h3 _) (get_put _ _ _) h2
        intro g' H' I β a w next Q h1 h2 h3 h4 h5 h6 h7
        rw [if_neg (by rw [hdec g' a I β w h1 h5]; exact Bool.false_ne_true)]
        exact h7 undef I β w h4 (rel_val _) (Evo.refl _ _ _) (fun s hs _ => hs)
      · simp only [if_true] at hbr
        obtain ⟨d2, h2, h3⟩ := knPut_spec hk' hbr
        obtain ⟨t, t1, t2, t3, t4, ⟨Γ', t5, t6⟩, t7⟩ := vcStepD_does (ops := ops) hT rfl hk' h2 (fun g' a I β w => hdec g' a I β w)
        refine glue t lo' d2 Γ' hb.1 hb.2 (fun s hs => ?_) t1 t2 hd t7 (by rw [t5]; simp only [Tr.step, t1]; exact h3 _ t4) t5 t6
        rw [t3] at hs
        cases e : isAlloc o.op <;> rw [e] at hs hlo <;> simp only [cond_true, cond_false] at hs hlo
        · cases hs
        · injection hs with hs; omega
    simp only [vcOpsD] at h
    split at h
    · rename_i hd ha; exact one (lo + 1) (by rw [ha]; rfl) hd h
    · rename_i hd ha; exact one lo (by rw [ha]; rfl) hd h
    · exact h.elim

end
end Go.Cw

/-
  Cw, part PD: statements that draw their order are sound.
-/
namespace Go.Cw
set_option linter.unusedVariables false
set_option linter.unusedSimpArgs false
section
variable {P : Program} {T : Tab} {n nh : Nat}

/-! Masks. -/
theorem mask_fold {acc : List Nat} {i : Nat} : ∀ (es : List Edge) (s : Nat), (es.foldl (fun s e => bif Region.binds .any e then (s ||| 2 ^ e.on) ||| acc.getD e.on 0 else s) s).testBit i = true →
    s.testBit i = true ∨ ∃ e ∈ es, Region.binds .any e = true ∧ (e.on = i ∨ (acc.getD e.on 0).testBit i = true)
  | [], s, h => .inl h
  | e :: es, s, h => by
    simp only [List.foldl_cons] at h
    rcases mask_fold es _ h with h | ⟨e', h1, h2, h3⟩
    · cases hb : Region.binds .any e
      · rw [hb] at h; exact .inl h
      · rw [hb] at h
        simp only [cond_true, Nat.testBit_or, Bool.or_eq_true, Nat.testBit_two_pow, decide_eq_true_eq] at h
        rcases h with (h | h) | h
        · exact .inl h
        · exact .inr ⟨e, by simp, hb, .inl h⟩
        · exact .inr ⟨e, by simp, hb, .inr h⟩
    · exact .inr ⟨e', by simp [h1], h2, h3⟩

def Closed (ops : Array Oper) (S : Nat → Bool) : Prop := ∀ (j : Nat) o, S j = true → ops[j]? = some o → ∀ e ∈ o.after, Region.binds .any e = true → S e.on = true

def MaskOk (ops : Array Oper) (S : Nat → Bool) (acc : List Nat) : Prop := ∀ (j i : Nat), (acc.getD j 0).testBit i = true → (∀ o, ops[j]? = some o → ∀ e ∈ o.after, Region.binds .any e = true → S e.on = true) → S i = true

theorem masks_ok {ops : Array Oper} {S : Nat → Bool} (hS : Closed ops S) : ∀ (l : List Oper) (acc : List Nat), (∀ j, l[j]? = ops[acc.length + j]?) → MaskOk ops S acc → MaskOk ops S (masks l acc)
  | [], acc, _, h => h
  | o :: l, acc, hl, h => by
    simp only [masks]
    refine masks_ok hS l _ (fun j => by have := hl (j + 1); simp only [List.getElem?_cons_succ] at this; rw [this]; congr 1; simp; omega) fun j i hb hp => ?_
    rcases Nat.lt_trichotomy j acc.length with hj | hj | hj
    · rw [List.getD_eq_getElem?_getD, List.getElem?_append_left hj, ← List.getD_eq_getElem?_getD] at hb
      exact h j i hb hp
    · subst hj
      have ho : ops[acc.length]? = some o := by have := hl 0; simpa using this.symm
      rw [List.getD_eq_getElem?_getD, List.getElem?_append_right (Nat.le_refl _), Nat.sub_self, List.getElem?_cons_zero, Option.getD_some] at hb
      unfold maskOf at hb
      rcases mask_fold _ _ hb with hz | ⟨e, h1, h2, h3⟩
      · simp at hz
      · have he : S e.on = true := hp o ho e (by simpa using h1) h2
        rcases h3 with h3 | h3
        · rw [← h3]; exact he
        · exact h e.on i h3 fun o' ho' => hS e.on o' he ho'
    · rw [List.getD_eq_getElem?_getD, List.getElem?_eq_none (by simp; omega)] at hb
      simp at hb

/-! How many are left. -/
def cntF (f : Nat → Bool) : Nat → Nat
  | 0 => 0
  | m + 1 => cntF f m + (bif f m then 1 else 0)

theorem cntF_mono {f g : Nat → Bool} : ∀ {m : Nat}, (∀ k, k < m → g k = true → f k = true) → cntF g m ≤ cntF f m
  | 0, _ => Nat.le_refl _
  | m + 1, h => by
    simp only [cntF]
    have := cntF_mono (f := f) (g := g) (m := m) fun k hk => h k (by omega)
    have h1 := h m (by omega)
    cases hg : g m <;> cases hf : f m <;> simp only [cond_true, cond_false] <;> first | omega | (rw [h1 hg] at hf; cases hf)

theorem cntF_lt {f g : Nat → Bool} {j : Nat} : ∀ {m : Nat}, (∀ k, k < m → g k = true → f k = true) → j < m → f j = true → g j = false → cntF g m < cntF f m
  | 0, _, h, _, _ => by omega
  | m + 1, h, hj, hf, hg => by
    simp only [cntF]
    by_cases e : j = m
    · subst e
      have := cntF_mono (f := f) (g := g) (m := j) fun k hk => h k (by omega)
      rw [hf, hg]; simp only [cond_true, cond_false]; omega
    · have := cntF_lt (f := f) (g := g) (m := m) (fun k hk => h k (by omega)) (by omega) hf hg
      have h1 := h m (by omega)
      cases hg : g m <;> cases hf : f m <;> simp only [cond_true, cond_false] <;> first | omega | (rw [h1 hg] at hf; cases hf)

theorem cntF_zero {f : Nat → Bool} : ∀ {m : Nat}, cntF f m = 0 → ∀ k, k < m → f k = false
  | 0, _, k, hk => by omega
  | m + 1, h, k, hk => by
    simp only [cntF] at h
    by_cases e : k = m
    · subst e
      cases hf : f k
      · rfl
      · rw [hf] at h; simp only [cond_true] at h; omega
    · exact cntF_zero (m := m) (by omega) k (by omega)

variable {I0 : Nat → Prop} {β0 : Beta} {w0 : World}

theorem disj_spec {xs ys : List Nat} (h : disj xs ys = true) : ∀ x ∈ xs, x ∉ ys := fun x hx hy => by
  simp only [disj, List.all_eq_true, Bool.not_eq_true'] at h
  have := h x hx x hy
  simp at this

theorem draws_ok (hT : TabOk P T) (hm : P.follows .mixedOrders = true) : DrawsOk P T n I0 β0 w0 := by
  intro id ops K Q lo Γ H a w hK hs h
  obtain ⟨tr, htl, ⟨Γf, hgf, hdraw, hKf⟩, hdoes, hsites, huniq⟩ := vcOpsD_trace hT ops.toList 0 lo [] Γ H [] (knOk_nil _) h
  have hlen : tr.length = ops.size := by simpa using htl
  simp only [List.append_nil, List.reverse_reverse] at hdraw
  simp only [drawOk, Bool.and_eq_true, List.all_eq_true] at hdraw
  obtain ⟨hd1, hd2⟩ := hdraw
  have hback : ∀ (j : Nat) o, ops[j]? = some o → ∀ e ∈ o.after, Region.binds .any e = true → e.on < j := fun j o ho e he hb => by
    have hmem : (o, j) ∈ ops.toList.zipIdx := by
      rw [List.mem_zipIdx_iff_getElem?]; simpa using ho
    have := hd1 (o, j) hmem
    simp only [List.all_eq_true] at this
    have := this e (by simpa using he)
    rw [hb] at this
    simpa [Nat.blt_eq] using this
  have hpair : ∀ (S : Nat → Bool), Closed ops S → (∀ j, S j = true → j < ops.size) → ∀ (i j : Nat) ti tj, i < j → tr[i]? = some ti → tr[j]? = some tj → (∀ o, ops[j]? = some o → ∀ e ∈ o.after, Region.binds .any e = true → S e.on = true) → S i = false →
      Apart ti tj ∧ (∀ x, ti.dst = some x → x ∉ tj.L) ∧ (∀ x, tj.dst = some x → x ∉ ti.L) ∧ (∀ x ∈ keysOf ti.u, x ∉ tj.rd) ∧ (∀ x ∈ keysOf tj.u, x ∉ ti.rd) := fun S hS hin i j ti tj hij hi hj hp hSi => by
    have hjl : j < ops.size := by rw [← hlen]; exact (List.getElem?_eq_some_iff.1 hj).1
    have := hd2 j (by simpa using hjl) i (by simpa using hij)
    simp only [pairOk, Bool.or_eq_true] at this
    rcases this with hb | hb
    · have hM : MaskOk ops S (masks ops.toList []) := masks_ok hS ops.toList [] (fun j => by simp) (fun j i hb => by simp at hb)
      have := hM j i hb hp
      rw [hSi] at this; cases this
    · have hoi : ops[i]? = some ops[i] := Array.getElem?_eq_getElem (by omega)
      have hoj : ops[j]? = some ops[j] := Array.getElem?_eq_getElem hjl
      simp only [hoi, hoj, List.getElem?_map, hi, hj, Option.map_some, Bool.and_eq_true] at hb
      obtain ⟨⟨⟨hap, h1⟩, h2⟩, h3⟩ := hb
      obtain ⟨a1, a2, a3⟩ := Oper.apart_spec hap
      obtain ⟨di, li, _, _⟩ := hdoes i ti ops[i] hi (by rw [Array.getElem?_toList]; exact hoi)
      obtain ⟨dj, lj, _, _⟩ := hdoes j tj ops[j] hj (by rw [Array.getElem?_toList]; exact hoj)
      refine ⟨⟨fun x hx => by rw [dj]; exact a2 x (by rw [← di]; exact hx), disj_spec h2⟩, fun x hx => by rw [lj]; exact a1 x (by rw [← di]; exact hx), fun x hx => by rw [li]; exact a3 x (by rw [← dj]; exact hx), disj_spec h1, disj_spec h3⟩
  have main : ∀ (fuel : Nat) (listed : Array Bool) (a : Act) (w : World) (I : Nat → Prop) (β : Beta), listed.size = ops.size → Closed ops (fun k => listed.getD k false) → cntF (fun k => !listed.getD k false) ops.size ≤ fuel →
      Sim I0 β0 w0 n 0 0 (runS (fun k => listed.getD k false) 0 tr (get Γ, H)).1 (runS (fun k => listed.getD k false) 0 tr (get Γ, H)).2 I β a w →
      (∀ (k : Nat) t s, tr[k]? = some t → t.site = some s → listed.getD k false = false → β[s]? = some none) → wpAny P .any ops Q fuel listed a w := by
    intro fuel
    induction fuel with
    | zero =>
      intro listed a w I β hsz hcl hcnt hsim hfree
      have hall : ∀ k, k < ops.size → listed.getD k false = true := fun k hk => by
        have := cntF_zero (Nat.le_zero.1 hcnt) k hk
        simpa using this
      refine ⟨?_, hK Γf _ a w ⟨I, β, ?_⟩ hKf⟩
      · apply List.eq_nil_iff_forall_not_mem.2
        intro j hj
        obtain ⟨h1, o, ho, _⟩ := mem_ready.1 hj
        have hjl := (Array.getElem?_eq_some_iff.1 ho).1
        have h2 := hall j hjl
        simp [hsz, hjl] at h1 h2
        rw [h1] at h2; cases h2
      · rw [hgf, ← runS_congr (S := fun k => listed.getD k false) (S' := fun _ => true) fun k hk => hall _ (by omega)]
        exact hsim
    | succ fuel ih =>
      intro listed a w I β hsz hcl hcnt hsim hfree
      refine ⟨fun hr => ?_, fun j hj => ?_⟩
      · have hall : ∀ k, k < ops.size → listed.getD k false = true := fun k => by
          induction k using Nat.strongRecOn with
          | _ k ihk =>
            intro hk
            cases hlk : listed.getD k false
            · exfalso
              have : k ∈ Region.ready .any ops listed := mem_ready.2 ⟨by simp [hsz, hk] at hlk ⊢; exact hlk, ops[k], Array.getElem?_eq_getElem hk, fun e he hb => ihk e.on (hback k _ (Array.getElem?_eq_getElem hk) e he hb) (by
                have := hback k _ (Array.getElem?_eq_getElem hk) e he hb; omega)⟩
              rw [hr] at this; cases this
            · rfl
        refine hK Γf _ a w ⟨I, β, ?_⟩ hKf
        rw [hgf, ← runS_congr (S := fun k => listed.getD k false) (S' := fun _ => true) fun k hk => hall _ (by omega)]
        exact hsim
      · obtain ⟨hj0, o, ho, hpre⟩ := mem_ready.1 hj
        have hjl : j < ops.size := (Array.getElem?_eq_some_iff.1 ho).1
        have hSj : listed.getD j false = false := by simp [hsz, hjl] at hj0 ⊢; exact hj0
        have hin : ∀ k, listed.getD k false = true → k < ops.size := fun k hk => by
          rcases Nat.lt_or_ge k ops.size with h | h
          · exact h
          · simp [Array.getElem?_eq_none (by omega : listed.size ≤ k)] at hk
        obtain ⟨t, ht⟩ : ∃ t, tr[j]? = some t := ⟨_, List.getElem?_eq_getElem (by omega)⟩
        obtain ⟨htd, htL, hdn, hdo⟩ := hdoes j t o ht (by simpa using ho)
        have hpj : ∀ o', ops[j]? = some o' → ∀ e ∈ o'.after, Region.binds .any e = true → listed.getD e.on false = true := fun o' ho' => by
          rw [ho] at ho'; injection ho' with ho'; subst ho'; exact hpre
        -- before j
        have before : ∀ (k : Nat) tk, k < j → tr[k]? = some tk → listed.getD k false = false → _ := fun k tk hk htk hf => hpair (fun k => listed.getD k false) hcl hin k j tk t hk htk ht hpj hf
        have after : ∀ (k : Nat) tk, j < k → tr[k]? = some tk → listed.getD k false = true → _ := fun k tk hk htk hf => hpair (fun k => listed.getD k false) hcl hin j k t tk hk ht htk (fun o' ho' => hcl k o' hf ho') hSj
        have differ : ∀ (k : Nat) tk, tr[k]? = some tk → listed.getD (0 + k) false ≠ decide (0 + k < 0 + j) → (∀ x, tk.dst = some x → x ∉ t.L) ∧ (∀ x ∈ keysOf tk.u, x ∉ t.rd) := fun k tk htk hne => by
          simp only [Nat.zero_add] at hne
          rcases Nat.lt_trichotomy k j with hk | hk | hk
          · have hf : listed.getD k false = false := by
              cases e : listed.getD k false
              · rfl
              · rw [e] at hne; simp [hk] at hne
            obtain ⟨_, b1, _, b3, _⟩ := before k tk hk htk hf
            exact ⟨b1, b3⟩
          · subst hk; rw [hSj] at hne; simp at hne
          · have hf : listed.getD k false = true := by
              cases e : listed.getD k false
              · rw [e] at hne; simp at hne; omega
              · rfl
            obtain ⟨_, _, b2, _, b4⟩ := after k tk hk htk hf
            exact ⟨b2, b4⟩
        have hstep := hdo (runS (fun k => listed.getD k false) 0 tr (get Γ, H)).1 (runS (fun k => listed.getD k false) 0 tr (get Γ, H)).2 I β a w (wpAny P .any ops Q fuel (listed.setIfInBounds j true)) Q
          (fun x hx => runS_slot rfl fun k tk htk hne hd => (differ k tk htk hne).1 x hd hx)
          (fun i hi => runS_obj rfl rfl fun k tk htk hne hk => (differ k tk htk hne).2 i hk hi)
          (by rw [runS_len, runS_len]) hsim.h hsim.slot (fun s hs => hfree j t s ht hs hSj) (fun v I' β' w' hH' hr' hevo hfr => by
            have hS' : (fun k => (listed.setIfInBounds j true).getD k false) = fun k => listed.getD k false || k == 0 + j := by
              funext k
              rw [Nat.zero_add]
              by_cases hkj : k = j
              · subst hkj
                simp [hsz, hjl]
              · rw [getD_set_ne false (fun e => hkj e.symm)]
                have : (k == j) = false := by simpa using hkj
                rw [this, Bool.or_false]
            have hrun := runS_insert (S := fun k => listed.getD k false) (t := t) (l := tr) (i := 0) (j := j) (s := (get Γ, H)) ht (by simpa using hSj) (fun k tk hk htk hf => (after k tk hk htk (by simpa using hf)).1)
            refine ih _ _ w' I' β' (by simpa using hsz) ?_ ?_ ?_ ?_
            · intro k o' hk ho' e he hb
              have hk : (listed.setIfInBounds j true).getD k false = true := hk
              show (listed.setIfInBounds j true).getD e.on false = true
              by_cases hkj : k = j
              · subst hkj; exact getD_set_true (hpj o' ho' e he hb)
              · rw [getD_set_ne false (fun e => hkj e.symm)] at hk
                exact getD_set_true (hcl k o' hk ho' e he hb)
            · have := cntF_lt (f := fun k => !listed.getD k false) (g := fun k => !(listed.setIfInBounds j true).getD k false) (j := j) (m := ops.size) (fun k _ hk => by
                simp only [Bool.not_eq_true'] at hk ⊢
                cases e : listed.getD k false
                · rfl
                · rw [getD_set_true e] at hk; cases hk) hjl (by simp only [hSj]; rfl) (by simp [hsz, hjl])
              omega
            · rw [hS', hrun]
              simp only [Tr.step, htd]
              exact hsim.put hdn hH' hr' hevo (fun s h1 h2 => by omega)
            · intro k tk s hk hsite hf
              have hkj : k ≠ j := fun e => by subst e; simp [hsz, hjl] at hf
              rw [getD_set_ne false (fun e => hkj e.symm)] at hf
              exact hfr s (hfree k tk s hk hsite hf) (fun e => hkj (huniq k j tk t s hk ht hsite e)))
        unfold wpOp
        simp only [ho]
        split
        · rename_i hw; rw [if_pos hw] at hstep; exact .inl hstep
        · rename_i hw; rw [if_neg hw] at hstep; exact hstep
  refine wp_region_any hm ?_
  obtain ⟨I, β, hs⟩ := hs.drew
  have h0 : ∀ k, (Array.replicate ops.size false).getD k false = false := fun k => by
    by_cases hk : k < ops.size <;> simp [hk]
  refine main ops.size _ a w.drew I β (by simp) (fun j o hj => by
    have hj : (Array.replicate ops.size false).getD j false = true := hj
    rw [h0] at hj; cases hj) ?_ ?_ (fun k t s hk hsite _ => ?_)
  · have : ∀ (m : Nat) (f : Nat → Bool), cntF f m ≤ m := fun m f => by
      induction m with
      | zero => exact Nat.le_refl _
      | succ m ih => simp only [cntF]; cases f m <;> simp only [cond_true, cond_false] <;> omega
    exact this _ _
  · rw [runS_none fun k _ => h0 k]
    exact ⟨hs.h, hs.defers, hs.size, hs.slot, hs.evo, fun s h1 h2 => by omega⟩
  · have := hsites k t s hk hsite
    exact hs.free s this.1 this.2

end
end Go.Cw

/-
  Cw, part H: contracts, put together.
-/
namespace Go.Cw
set_option linter.unusedVariables false
section
variable {P : Program} {T : Tab}

/-- A contract from a walk over the code. -/
theorem acall_of (hT : TabOk P T) (hm : P.follows .mixedOrders = true) {f : FuncId} {fn : Func} {c : Code} {args : List AV} {H : Heap} {Post : AV → Heap → Prop} (n : Nat) (hn : fn.ntmps = n)
    (hfn : P.funcs[f]? = some fn) (hname : (fn.name == "runtime.NumGoroutine") = false) (hbody : fn.body = some c) (hlen : Nat.ble args.length n = true) (nh : Nat) (hnh : H.length = nh)
    (h : xCode P T n nh c (retQ T nh fn Post) (argSlots 0 args) H) : ACall P f args H Post := by
  subst hn; subst hnh
  rw [xCode_eq] at h
  exact acall_of_code hT hm (fun _ _ _ => draws_ok hT hm) hfn hname hbody (Nat.le_of_ble_eq_true hlen) h

theorem ACall.mono {f : FuncId} {args : List AV} {H : Heap} {Post Post' : AV → Heap → Prop} (h : ACall P f args H Post) (hp : ∀ r H', Post r H' → Post' r H') : ACall P f args H Post' :=
  ⟨h.1, fun I β w vs h1 h2 h3 => (h.2 I β w vs h1 h2 h3).mono fun e w' ⟨r, H', I', β', v, e1, e2, e3⟩ => ⟨r, H', I', β', v, e1, hp r H' e2, e3⟩⟩

theorem PCall.mono {f : FuncId} {args : List AV} {Post Post' : AV → Prop} (h : PCall P f args Post) (hp : ∀ r, Post r → Post' r) : PCall P f args Post' :=
  ACall.mono h fun r H' ⟨e, k⟩ => ⟨e, hp r k⟩

end
end Go.Cw

/-
  Cw, part L: an abstract state may be made weaker: slices frozen, a nil slice read as an empty one.
-/
namespace Go.Cw
set_option linter.unusedVariables false
section
variable {P : Program} {T : Tab} {n nh : Nat}

theorem PLe.refl {p : PV} : PLe p p := fun _ _ _ h => h

theorem PLe.nil {z : Nat} : PLe (.val (.slice none 0 0)) (.sl z []) := fun I w v h => by
  cases h with
  | val v => exact PRel.sl (xs := []) (ad := none) (cap := 0) (fun _ _ => undef) (Nat.le_refl _) (fun i r h => by simp at h) (fun i r j p h => by simp at h)

def PLeL : List PV → List PV → Prop
  | [], [] => True
  | p :: l, q :: m => PLe p q ∧ PLeL l m
  | _, _ => False

def PLeLL : List (List PV) → List (List PV) → Prop
  | [], [] => True
  | p :: l, q :: m => PLeL p q ∧ PLeLL l m
  | _, _ => False

theorem PLeL.spec : ∀ {l m : List PV}, PLeL l m → m.length = l.length ∧ ∀ (j : Nat) y, m[j]? = some y → ∃ x, l[j]? = some x ∧ PLe x y
  | [], [], _ => ⟨rfl, fun j y h => by simp at h⟩
  | x :: l, y :: m, h => by
    obtain ⟨h1, h2⟩ := PLeL.spec h.2
    refine ⟨by simp [h1], fun j z hj => ?_⟩
    cases j with
    | zero => simp at hj; subst hj; exact ⟨x, rfl, h.1⟩
    | succ j => simpa using h2 j z (by simpa using hj)
  | [], _ :: _, h => h.elim
  | _ :: _, [], h => h.elim

theorem PLeLL.spec : ∀ {l m : List (List PV)}, PLeLL l m → m.length = l.length ∧ ∀ (j : Nat) y, m[j]? = some y → ∃ x, l[j]? = some x ∧ PLeL x y
  | [], [], _ => ⟨rfl, fun j y h => by simp at h⟩
  | x :: l, y :: m, h => by
    obtain ⟨h1, h2⟩ := PLeLL.spec h.2
    refine ⟨by simp [h1], fun j z hj => ?_⟩
    cases j with
    | zero => simp at hj; subst hj; exact ⟨x, rfl, h.1⟩
    | succ j => simpa using h2 j z (by simpa using hj)
  | [], _ :: _, h => h.elim
  | _ :: _, [], h => h.elim

theorem PLeL.refl : ∀ {l : List PV}, PLeL l l
  | [] => trivial
  | _ :: _ => ⟨PLe.refl, PLeL.refl⟩
theorem PLeLL.refl : ∀ {l : List (List PV)}, PLeLL l l
  | [] => trivial
  | _ :: _ => ⟨PLeL.refl, PLeLL.refl⟩
theorem PLeLL.map {α : Type} {f g : α → List PV} : ∀ {l : List α}, (∀ x ∈ l, PLeL (f x) (g x)) → PLeLL (l.map f) (l.map g)
  | [], _ => trivial
  | x :: l, h => ⟨h x (by simp), PLeLL.map fun y hy => h y (by simp [hy])⟩

theorem PLe.sl {z : Nat} {xs ys : List (List PV)} (h : PLeLL xs ys) : PLe (.sl z xs) (.sl z ys) := fun I w v hv => by
  obtain ⟨hl, hs⟩ := h.spec
  generalize hx : PV.sl z xs = x at hv
  cases hv with
  | val v => cases hx
  | ia u h0 h1 h2 => cases hx
  | fn hl h => cases hx
  | sl u hc h1 h2 =>
    injection hx with e1 e2; subst e1; subst e2
    rw [← hl]
    refine .sl u (by rw [hl]; exact hc) (fun i r hr => ?_) (fun i r j p hr hp => ?_)
    · obtain ⟨r0, hr0, hle⟩ := hs i r hr
      obtain ⟨g1, g2⟩ := h1 i r0 hr0
      exact ⟨by rw [hle.spec.1]; exact g1, g2⟩
    · obtain ⟨r0, hr0, hle⟩ := hs i r hr
      obtain ⟨p0, hp0, hpl⟩ := hle.spec.2 j p hp
      exact hpl _ _ _ (h2 i r0 j p0 hr0 hp0)

theorem ALe.pv {p q : PV} (h : PLe p q) : ALe (.pv p) (.pv q) := fun I β w v hv => by
  cases hv with
  | pv hv => exact .pv (h _ _ _ hv)

theorem ALe.agg {l m : List AV} (h : ALeL l m) : ALe (.agg l) (.agg m) := fun I β w v hv => by
  obtain ⟨h1, h2⟩ := h.spec
  cases hv with
  | agg hl hc =>
    refine .agg (by rw [hl, h1]) fun j c hj => ?_
    obtain ⟨x, hx, hxc⟩ := h2 j c hj
    exact hxc _ _ _ _ (hc j x hx)

theorem ALe.tup {l m : List AV} (h : ALeL l m) : ALe (.tup l) (.tup m) := fun I β w v hv => by
  obtain ⟨h1, h2⟩ := h.spec
  cases hv with
  | tup hl hc =>
    refine .tup (by rw [hl, h1]) fun j c hj => ?_
    obtain ⟨x, hx, hxc⟩ := h2 j c hj
    exact hxc _ _ _ _ (hc j x hx)

theorem ACall.weak {f : FuncId} {args : List AV} {H : Heap} {Post Post' : AV → Heap → Prop} (h : ACall P f args H Post) (hp : ∀ r H', Post r H' → ∃ r2, ALe r r2 ∧ Post' r2 H') : ACall P f args H Post' :=
  ⟨h.1, fun I β w vs h1 h2 h3 => (h.2 I β w vs h1 h2 h3).mono fun e w' ⟨r, H', I', β', v, e1, e2, e3, e4, e5⟩ => by
    obtain ⟨r2, g1, g2⟩ := hp r H' e2
    exact ⟨r2, H', I', β', v, e1, g2, e3, g1 _ _ _ _ e4, e5⟩⟩

theorem PCall.weak {f : FuncId} {args : List AV} {Post Post' : AV → Prop} (h : PCall P f args Post) (hp : ∀ r, Post r → ∃ r2, ALe r r2 ∧ Post' r2) : PCall P f args Post' :=
  ACall.weak h fun r H' ⟨e, k⟩ => by
    obtain ⟨r2, g1, g2⟩ := hp r k
    exact ⟨r2, g1, e, g2⟩

theorem ACall.le_args {f : FuncId} {args as : List AV} {H : Heap} {Post : AV → Heap → Prop} (hle : ALeL args as) (h : ACall P f as H Post) : ACall P f args H Post := by
  obtain ⟨l1, l2⟩ := hle.spec
  refine ⟨h.1, fun I β w vs h1 h2 h3 => h.2 I β w vs h1 (by rw [h2, l1]) fun j c hj => ?_⟩
  obtain ⟨x, hx, hxc⟩ := l2 j c hj
  exact hxc _ _ _ _ (h3 j x hx)

theorem Ghost.weak {Γ : Slots} {H : Heap} {s : Nat} {x y : AV} (h : get Γ s = some x) (hle : ALe x y) : Ghost n nh Γ H ((s, y) :: Γ) H := fun I0 β0 w0 a w _ ⟨I, β, hs⟩ =>
  ⟨I, β, hs.h, hs.defers, hs.size, fun t z hz => by
    rw [get_cons] at hz
    split at hz
    · rename_i e; subst e; injection hz with hz; subst hz
      exact hle _ _ _ _ (hs.slot _ _ h)
    · exact hs.slot _ _ hz, hs.evo, hs.free⟩

/-- Fewer slots. -/
theorem Ghost.keep {Γ Γ' : Slots} {H : Heap} (h : ∀ s x, get Γ' s = some x → get Γ s = some x) : Ghost n nh Γ H Γ' H := fun I0 β0 w0 a w _ ⟨I, β, hs⟩ =>
  ⟨I, β, hs.h, hs.defers, hs.size, fun t z hz => hs.slot _ _ (h _ _ hz), hs.evo, hs.free⟩

/-- Nobody writes any more what a slot leads to. -/
theorem Ghost.freeze {Γ : Slots} {H : Heap} {s : Nat} {x y : AV} (h : get Γ s = some x) (hc : conv H x = some y) (hok : ok1 H x) : Ghost n nh Γ H ((s, y) :: Γ) (app H (frz H (ids1 H x))) := fun I0 β0 w0 a w _ ⟨I, β, hs⟩ => by
  let ids := ids1 H x
  let J : Nat → Prop := fun b => I b ∨ ∃ id ∈ ids, ∃ c, β[id]? = some (some c) ∧ c.1 = b
  have hH := hs.h
  have hIJ : ∀ b, I b → J b := fun b h => .inl h
  have hJlt : ∀ b, J b → b < w.heap.size := fun b h => by
    rcases h with h | ⟨id, _, c, h, rfl⟩
    · exact hH.imm b h
    · exact hH.lt id c h
  have hkI : ∀ b, I b → w.heap[b]? = w.heap[b]? ∧ J b := fun b hb => ⟨rfl, hIJ b hb⟩
  have hget := frz_get ids H H (fun i ⟨o, ho⟩ => ⟨o, ho, .inl ho⟩)
  have hmono : ∀ {x : AV} {v : Value}, ARel I β w x v → ARel J β w x v := fun h => h.mono hkI (fun _ _ h => h) (fun _ _ _ h => h)
  refine ⟨J, β, ⟨by rw [app_length]; exact hH.len, fun i o2 ho2 => ?_, fun i j oi oj b b' hi hj hbi hbj hbb => ?_, hJlt, hH.lt⟩, hs.defers, hs.size, fun t z hz => ?_,
    ⟨hs.evo.os, hs.evo.tape, hs.evo.output, hs.evo.size, hs.evo.pre, hs.evo.fresh, hs.evo.keep, fun b hb => ⟨(hs.evo.keepI b hb).1, hIJ b (hs.evo.keepI b hb).2⟩, fun b hb hJ => ?_, hs.evo.shape⟩, hs.free⟩
  · have ho2 : (app H (frz H ids))[i]? = some (some o2) := ho2
    rw [hget i] at ho2
    cases hHi : H[i]? with
    | none => simp [hHi] at ho2
    | some oo =>
      cases oo with
      | none => simp [hHi] at ho2
      | some o =>
        obtain ⟨b, hb, h1, h2, c, h3, h4⟩ := hH.obj i o hHi
        refine ⟨b, hb, ?_⟩
        simp only [hHi] at ho2
        have hcells : ∀ i j x, rowCell o.rows i j = some x → ∃ v, c[(i + b.2) * o.z + j]? = some v ∧ v.oneCell' = true ∧ ARel J β w x v := fun i j x hx => by
          obtain ⟨v, hv, h5, h6⟩ := h4 i j x hx
          exact ⟨v, hv, h5, hmono h6⟩
        by_cases hi : i ∈ ids
        · rw [if_pos hi] at ho2
          injection ho2 with ho2; injection ho2 with ho2; subst ho2
          exact ⟨h1, ⟨fun _ => .inr ⟨i, hi, b, hb, rfl⟩, fun _ => rfl⟩, c, h3, hcells⟩
        · rw [if_neg hi] at ho2
          injection ho2 with ho2; injection ho2 with ho2; subst ho2
          refine ⟨h1, ⟨fun e => hIJ b.1 (h2.1 e), fun hI => h2.2 ?_⟩, c, h3, hcells⟩
          rcases hI with h | ⟨id, hid, c', h, hc'⟩
          · exact h
          · exfalso
            obtain ⟨oid, hoid⟩ := ids1_live hid
            exact hi (hH.inj id i oid o c' b hoid hHi h hb hc' ▸ hid)
  · have live : ∀ {i : Nat} {oi : AObj}, (app H (frz H ids))[i]? = some (some oi) → ∃ o, H[i]? = some (some o) := fun {i oi} hi => by
      rw [hget i] at hi
      cases hHi : H[i]? with
      | none => simp [hHi] at hi
      | some oo => cases oo with
        | none => simp [hHi] at hi
        | some o => exact ⟨o, rfl⟩
    obtain ⟨o1, h1⟩ := live hi
    obtain ⟨o2, h2⟩ := live hj
    exact hH.inj i j o1 o2 b b' h1 h2 hbi hbj hbb
  · rw [get_cons] at hz
    split at hz
    · rename_i e; subst e; injection hz with hz; subst hz
      exact conv_sound hH hIJ hc hok (hs.slot _ _ h) (fun id hid b hb => .inr ⟨id, hid, b, hb, rfl⟩)
    · exact hmono (hs.slot _ _ hz)
  · rcases hJ with h | ⟨id, _, c, h, hc⟩
    · exact hs.evo.old b hb h
    · rcases hs.evo.fresh id c h with h2 | ⟨j, c', h2, h3⟩
      · omega
      · exact .inr ⟨j, c', h2, h3.trans hc⟩

end
end Go.Cw

/-
  Cw, part J: what a law is handed, as pure values with their types.
-/
namespace Go.Cw
set_option linter.unusedVariables false
open Go.WideShapes

mutual
/-- The cells of a pure value of a type. -/
inductive PTy (T : Tab) : TypeId → List PV → Prop
  | int {t : TypeId} {size bytes : Nat} {agg : Bool} {k : IntKind} {zero : List PV} {n : Int} (h : look T t = some ⟨size, bytes, agg, .int k, zero⟩) (hw : k.min ≤ n ∧ n ≤ k.max) : PTy T t [.val (.int k n)]
  | bool {t : TypeId} {size bytes : Nat} {agg : Bool} {zero : List PV} {b : Bool} (h : look T t = some ⟨size, bytes, agg, .bool, zero⟩) : PTy T t [.val (.bool b)]
  | str {t : TypeId} {size bytes : Nat} {agg : Bool} {zero : List PV} {s : ByteArray} (h : look T t = some ⟨size, bytes, agg, .str, zero⟩) (hs : s.size ≤ 9223372036854775807) : PTy T t [.val (.string s)]
  | slice {t : TypeId} {size bytes : Nat} {agg : Bool} {e : TypeId} {zero : List PV} {esize ebytes : Nat} {eagg : Bool} {etk : TK} {ezero : List PV} {xs : List (List PV)} (h : look T t = some ⟨size, bytes, agg, .slice e, zero⟩)
      (he : look T e = some ⟨esize, ebytes, eagg, etk, ezero⟩) (hl : xs.length ≤ 9223372036854775807) (hx : ∀ (i : Nat) r, xs[i]? = some r → PTy T e r) : PTy T t [.sl esize xs]
  | struct {t : TypeId} {size bytes : Nat} {agg : Bool} {fs : List (Nat × TypeId)} {zero : List PV} {cs : List PV} (h : look T t = some ⟨size, bytes, agg, .struct fs, zero⟩) (hl : PTyL T (fs.map (·.2)) cs) : PTy T t cs
inductive PTyL (T : Tab) : List TypeId → List PV → Prop
  | nil : PTyL T [] []
  | cons {t : TypeId} {ts : List TypeId} {q qs : List PV} {d : TyD} (h : PTy T t q) (hd : look T t = some d) (hq : q.length = d.size) (hr : PTyL T ts qs) : PTyL T (t :: ts) (q ++ qs)
end

def tiles (T : Tab) : Nat → List (Nat × TypeId) → Nat → Bool
  | o, [], size => Nat.beq o size
  | o, (off, t) :: l, size => match look T t with
    | some d => Nat.beq off o && tiles T (o + d.size) l size
    | none => false

/-- Types whose values 'PTy' tells. -/
def plain (T : Tab) : Nat → TypeId → Bool
  | 0, _ => false
  | n + 1, t => match look T t with
    | some ⟨size, _, agg, tk, _⟩ => match tk with
      | .int _ | .bool | .str => Nat.beq size 1 && !agg
      | .slice e => Nat.beq size 1 && !agg && (match look T e with
        | some d => Nat.blt 0 d.size
        | none => false) && plain T n e
      | .struct fs => tiles T 0 fs size && agg && fs.all fun f => plain T n f.2
      | _ => false
    | none => false

section
variable {H : Type} {enc : TypeId × Value → H} {P : Program} {T : Tab} {W : World}

theorem mapM_opt {α γ : Type} {f : α → Option γ} : ∀ {l : List α} {r : List γ}, l.mapM f = some r → r.length = l.length ∧ ∀ (j : Nat) x, l[j]? = some x → ∃ y, r[j]? = some y ∧ f x = some y
  | [], r, h => by simp at h; subst h; simp
  | x :: l, r, h => by
    simp only [List.mapM_cons, Option.bind_eq_bind, Option.bind_eq_some_iff, Option.pure_def, Option.some.injEq] at h
    obtain ⟨y, hy, ys, hys, rfl⟩ := h
    obtain ⟨h1, h2⟩ := mapM_opt hys
    refine ⟨by simp [h1], fun j z hj => ?_⟩
    cases j with
    | zero => simp at hj; subst hj; exact ⟨y, rfl, hy⟩
    | succ j => simpa using h2 j z (by simpa using hj)

theorem pick_list {α : Type} {R : Nat → α → Prop} : ∀ (n : Nat), (∀ i, i < n → ∃ x, R i x) → ∃ xs : List α, xs.length = n ∧ ∀ (i : Nat) x, xs[i]? = some x → R i x
  | 0, _ => ⟨[], rfl, fun i x h => by simp at h⟩
  | n + 1, h => by
    obtain ⟨xs, h1, h2⟩ := pick_list n fun i hi => h i (by omega)
    obtain ⟨x, hx⟩ := h n (by omega)
    refine ⟨xs ++ [x], by simp [h1], fun i y hy => ?_⟩
    rcases Nat.lt_or_ge i n with hi | hi
    · rw [List.getElem?_append_left (by omega)] at hy; exact h2 i y hy
    · have : i = n := by have := (List.getElem?_eq_some_iff.1 hy).1; simp at this; omega
      subst this
      rw [List.getElem?_append_right (by omega)] at hy
      simp [h1] at hy; subst hy; exact hx

theorem tkOf_int {u : TypeDesc} {k : IntKind} (h : TK.int k = tkOf u) : u = .int k := by cases u <;> simp [tkOf] at h; subst h; rfl

/-- What stands in cells. -/
def Reads (W : World) (qs : List PV) (cs : List Value) : Prop := qs.length = cs.length ∧ ∀ (j : Nat) q v, qs[j]? = some q → cs[j]? = some v → v.oneCell' = true ∧ PRel (fun b => b < W.heap.size) W q v

theorem cell_block {a : Addr} {v : Value} (h : W.cell? a = some v) : a.block < W.heap.size := by
  unfold World.cell? at h
  split at h
  · rename_i hb
    have := (Array.getElem?_eq_some_iff.1 hb).1
    exact this
  · cases h

theorem reads_one {q : PV} {v : Value} (h1 : v.oneCell' = true) (h : PRel (fun b => b < W.heap.size) W q v) : Reads W [q] [v] := ⟨rfl, fun j q' v' hq hv => by
  cases j with
  | zero => simp at hq hv; subst hq; subst hv; exact ⟨h1, h⟩
  | succ j => simp at hq⟩

theorem cells_sp {a : Addr} {n : Nat} {cs : List Value} (h : W.cells? 0 a n = some cs) : cs.length = n ∧ ∀ j, j < n → ∃ v, cs[j]? = some v ∧ W.cell? (a.add j) = some v := by
  unfold World.cells? at h
  rw [if_pos (Nat.zero_le _)] at h
  obtain ⟨h1, h2⟩ := mapM_opt h
  refine ⟨by simpa using h1, fun j hj => ?_⟩
  obtain ⟨y, h3, h4⟩ := h2 j j (by simp [hj])
  exact ⟨y, h3, h4⟩

theorem trod_pv (hT : TabOk P T) : ∀ (n fuel : Nat) (t : TypeId) (cs : List Value) (x : DataW H × List MemPlace), plain T n t = true → DataW.trod enc P W 0 (fun _ => true) true fuel t cs = some x →
    ∃ qs, PTy T t qs ∧ Reads W qs cs ∧ ∃ d, look T t = some d ∧ cs.length = d.size
  | 0, fuel, t, cs, x, h, _ => by simp [plain] at h
  | n + 1, 0, t, cs, x, _, h => by simp [DataW.trod] at h
  | n + 1, fuel + 1, t, cs, x, hp, h => by
    simp only [plain] at hp
    split at hp
    · rename_i size bytes agg tk zero hl
      obtain ⟨i, u, z, hi, hu, _, _, hsz, _, _, htk, _⟩ := look_spec hT hl
      split at hp
      · rename_i k
        have := tkOf_int htk; subst this
        simp only [Bool.and_eq_true, Nat.beq_eq] at hp
        obtain ⟨rfl, _⟩ := hp
        unfold DataW.trod at h
        rw [hu] at h
        split at h <;> try (rename_i h0 _; cases h0; done)
        all_goals (try (rename_i h0; cases h0; done))
        · rename_i h0
          injection h0 with h0; injection h0 with h0; subst h0
          split at h
          · rename_i hk
            obtain ⟨rfl, hw⟩ := hk
            simp only [Lit.wf, Bool.and_eq_true, decide_eq_true_eq] at hw
            exact ⟨_, .int hl hw, reads_one rfl (.val _), _, hl, rfl⟩
          · cases h
        · cases h
      · have := tkOf_bool htk; subst this
        simp only [Bool.and_eq_true, Nat.beq_eq] at hp
        obtain ⟨rfl, _⟩ := hp
        unfold DataW.trod at h
        rw [hu] at h
        split at h <;> try (rename_i h0 _; cases h0; done)
        all_goals (try (rename_i h0; cases h0; done))
        · exact ⟨_, .bool hl, reads_one rfl (.val _), _, hl, rfl⟩
        · cases h
      · have := tkOf_str htk; subst this
        simp only [Bool.and_eq_true, Nat.beq_eq] at hp
        obtain ⟨rfl, _⟩ := hp
        unfold DataW.trod at h
        rw [hu] at h
        split at h <;> try (rename_i h0 _; cases h0; done)
        all_goals (try (rename_i h0; cases h0; done))
        · split at h
          · rename_i hs
            exact ⟨_, .str hl (by simpa [maxLen] using hs), reads_one rfl (.val _), _, hl, rfl⟩
          · cases h
        · cases h
      · rename_i e
        have := tkOf_slice htk; subst this
        simp only [Bool.and_eq_true, Nat.beq_eq] at hp
        obtain ⟨⟨⟨rfl, _⟩, hpos⟩, hpe⟩ := hp
        split at hpos
        case h_2 => cases hpos
        rename_i de hle
        obtain ⟨esize, ebytes, eagg, etk, ezero⟩ := de
        obtain ⟨ie, ue, ze, hie, hue, _, _, hesz, _, _, hetk, _⟩ := look_spec hT hle
        have hcells : P.cellsOf e = esize := by simp [Program.cellsOf, hie, hesz]
        unfold DataW.trod at h
        rw [hu] at h
        split at h <;> try (rename_i h0 _; cases h0; done)
        all_goals (try (rename_i h0; cases h0; done))
        · exact ⟨[.sl esize []], .slice hl hle (Nat.zero_le _) (fun i r h => by simp at h), reads_one rfl (PLe.nil _ _ _ (.val _)), _, hl, rfl⟩
        · rename_i a len cap h0
          injection h0 with h0; injection h0 with h0; subst h0
          simp only [hcells] at h
          split at h
          case isFalse => cases h
          rename_i hcap
          simp only [Option.bind_eq_some_iff] at h
          obtain ⟨elems, hel, _⟩ := h
          obtain ⟨hlen, hget⟩ := mapM_opt hel
          have hrow : ∀ i, i < len → ∃ qs : List PV, PTy T e qs ∧ qs.length = esize ∧ a.block < W.heap.size ∧ ∀ j, j < esize → ∃ q v, qs[j]? = some q ∧ W.cell? (a.add (i * esize + j)) = some v ∧ v.oneCell' = true ∧ PRel (fun b => b < W.heap.size) W q v := fun i hi => by
            obtain ⟨y, _, hy⟩ := hget i i (by simp [hi])
            simp only [Option.bind_eq_some_iff] at hy
            obtain ⟨cs', hcs', htr⟩ := hy
            obtain ⟨qs, h1, ⟨h2, h2'⟩, d, h3, h4⟩ := trod_pv hT n fuel e cs' y hpe htr
            rw [hle] at h3; injection h3 with h3; subst h3
            obtain ⟨h5, h6⟩ := cells_sp hcs'
            have hb : a.block < W.heap.size := by
              obtain ⟨v, _, hv⟩ := h6 0 (by simpa [Nat.blt_eq] using hpos)
              have := cell_block hv
              rwa [add_block, add_block] at this
            refine ⟨qs, h1, by rw [h2, h4], hb, fun j hj => ?_⟩
            obtain ⟨v, hv, hcell⟩ := h6 j hj
            have hq : qs[j]? = some qs[j] := List.getElem?_eq_getElem (by rw [h2, h5]; exact hj)
            rw [add_add] at hcell
            exact ⟨_, v, hq, hcell, (h2' j _ v hq hv).1, (h2' j _ v hq hv).2⟩
          obtain ⟨xs, hxl, hxs⟩ := pick_list len hrow
          subst hxl
          refine ⟨[.sl esize xs], .slice hl hle (by simp [maxLen] at hcap; omega) (fun i r hr => (hxs i r hr).1), reads_one rfl ?_, _, hl, rfl⟩
          refine .sl (fun i j => (W.cell? (a.add (i * esize + j))).getD undef) hcap.2.1 (fun i r hr => ?_) (fun i r j p hr hp => ?_)
          · obtain ⟨_, h1, hb, h2⟩ := hxs i r hr
            refine ⟨h1, a, rfl, hb, fun j hj => ?_⟩
            obtain ⟨q, v, _, h3, h4, _⟩ := h2 j hj
            simp only [h3, Option.getD_some]
            exact ⟨trivial, h4⟩
          · obtain ⟨_, h1, hb, h2⟩ := hxs i r hr
            have hj : j < esize := by rw [← h1]; exact (List.getElem?_eq_some_iff.1 hp).1
            obtain ⟨q, v, h3, h4, _, h5⟩ := h2 j hj
            rw [hp] at h3; injection h3 with h3; subst h3
            simp only [h4, Option.getD_some]
            exact h5
        · cases h
      · rename_i fs
        obtain ⟨Fs, rfl, rfl⟩ := tkOf_struct htk
        simp only [Bool.and_eq_true, List.all_eq_true] at hp
        obtain ⟨⟨htile, _⟩, hall⟩ := hp
        have hcells : P.cellsOf t = size := by simp [Program.cellsOf, hi, hsz]
        unfold DataW.trod at h
        simp only [hu] at h
        · split at h
          case isFalse => cases h
          rename_i hlen
          rw [hcells] at hlen
          simp only [Option.map_eq_some_iff] at h
          obtain ⟨xs, hxs, _⟩ := h
          have key : ∀ (fs : List Field) (o : Nat) (xs : List (DataW H × List MemPlace)), tiles T o (fs.map fun f => (f.offset, f.type)) size = true → (∀ f ∈ fs, plain T n f.type = true) → o ≤ cs.length →
              fs.mapM (fun f => DataW.trod enc P W 0 (fun _ => true) true fuel f.type ((cs.drop f.offset).take (P.cellsOf f.type))) = some xs →
              ∃ qs, PTyL T (fs.map (·.type)) qs ∧ Reads W qs (cs.drop o) := by
            intro fs
            induction fs with
            | nil =>
              intro o xs h1 _ ho _
              simp only [List.map_nil, tiles] at h1
              have : o = size := Nat.eq_of_beq_eq_true h1
              refine ⟨[], .nil, by simp; omega, fun j q v hq => by simp at hq⟩
            | cons f fs ih =>
              intro o xs h1 h2 ho h3
              simp only [List.map_cons, tiles] at h1
              split at h1
              case h_2 => cases h1
              rename_i df hdf
              simp only [Bool.and_eq_true] at h1
              obtain ⟨hoff, h1⟩ := h1
              have hoff := Nat.eq_of_beq_eq_true hoff
              simp only [List.mapM_cons, Option.bind_eq_bind, Option.bind_eq_some_iff, Option.pure_def, Option.some.injEq] at h3
              obtain ⟨y, hy, ys, hys, _⟩ := h3
              obtain ⟨qs, g1, ⟨g2, g2'⟩, d, g3, g4⟩ := trod_pv hT n fuel f.type _ y (h2 f (by simp)) hy
              rw [hdf] at g3; injection g3 with g3; subst g3
              obtain ⟨dsz, dby, dag, dtk, dze⟩ := df
              obtain ⟨fi, fu, fz, hfi, _, _, _, hfsz, _⟩ := look_spec hT hdf
              have hfc : P.cellsOf f.type = dsz := by simp [Program.cellsOf, hfi, hfsz]
              rw [hfc, hoff] at g4 g2 g2'
              simp only [List.length_take, List.length_drop] at g4
              simp only at h1
              obtain ⟨qs', k1, k2, k3⟩ := ih (o + dsz) ys h1 (fun f hf => h2 f (by simp [hf])) (by omega) hys
              refine ⟨qs ++ qs', .cons g1 hdf (by rw [g2]; simp; omega) k1, ?_, fun j q v hq hv => ?_⟩
              · simp only [List.length_append, k2, g2, List.length_take, List.length_drop]; omega
              · rcases Nat.lt_or_ge j qs.length with hj | hj
                · rw [List.getElem?_append_left hj] at hq
                  have hjd : j < dsz := by rw [g2] at hj; simp at hj; omega
                  exact g2' j q v hq (by rw [List.getElem?_take, if_pos hjd]; exact hv)
                · rw [List.getElem?_append_right hj] at hq
                  have hql : qs.length = dsz := by rw [g2]; simp; omega
                  refine k3 (j - qs.length) q v hq ?_
                  rw [List.getElem?_drop] at hv ⊢
                  rw [← hv]; congr 1; omega
          obtain ⟨qs, g1, g2⟩ := key Fs.toList 0 xs htile (fun f hf => hall (f.offset, f.type) (by simpa using ⟨f, by simpa using hf, rfl, rfl⟩)) (Nat.zero_le _) hxs
          rw [List.drop_zero] at g2
          refine ⟨qs, .struct hl (by simpa [List.map_map, Function.comp_def] using g1), g2, _, hl, hlen⟩
      · cases hp
    · cases hp

end
end Go.Cw

/-
  Cw, part K: from a law's contract to what the row asks.
-/
namespace Go.Cw
set_option linter.unusedVariables false
open Go.WideShapes Go.ChangeShapes Go.RowKit

/-- What the parameters hold. -/
inductive ArgsOk (T : Tab) : List TypeId → List AV → Prop
  | nil : ArgsOk T [] []
  | one {t : TypeId} {ts : List TypeId} {q : PV} {as : List AV} {d : TyD} (h : PTy T t [q]) (hl : look T t = some d) (ha : d.agg = false) (hr : ArgsOk T ts as) : ArgsOk T (t :: ts) (.pv q :: as)
  | agg {t : TypeId} {ts : List TypeId} {qs : List PV} {as : List AV} {d : TyD} (h : PTy T t qs) (hl : look T t = some d) (ha : d.agg = true) (hr : ArgsOk T ts as) : ArgsOk T (t :: ts) (.agg (pvs qs) :: as)

section
variable {H : Type} {enc : TypeId × Value → H} {P : Program} {T : Tab} {W : World}

theorem reads_agg {qs : List PV} {cs : Array Value} (h : Reads W qs cs.toList) : ARel (fun b => b < W.heap.size) [] W (.agg (pvs qs)) (.agg cs) := by
  refine .agg (by rw [pvs_length, h.1]; simp) fun j c hj => ?_
  obtain ⟨p, hp, rfl⟩ := pvs_get.1 hj
  have hlt : j < cs.size := by have := (List.getElem?_eq_some_iff.1 hp).1; rw [h.1] at this; simpa using this
  have := (h.2 j p cs[j] hp (by simp [hlt])).2
  exact .pv (by simpa [hlt] using this)

theorem arg_in (hT : TabOk P T) {n base : Nat} {t : TypeId} {v : Value} {d : DataW H} {ps : List MemPlace} (hp : plain T n t = true) (h : DataW.Trod enc P W 0 (fun _ => true) true t v d ps) (ho : Value.okWide P W .any base t v) :
    ∃ D, look T t = some D ∧ ((D.agg = false ∧ ∃ q, PTy T t [q] ∧ ARel (fun b => b < W.heap.size) [] W (.pv q) v) ∨ (D.agg = true ∧ ∃ qs, PTy T t qs ∧ ARel (fun b => b < W.heap.size) [] W (.agg (pvs qs)) v)) := by
  obtain ⟨fuel, h⟩ := h
  obtain ⟨qs, h1, h2, D, h3, h4⟩ := trod_pv hT n fuel t _ _ hp h
  refine ⟨D, h3, ?_⟩
  have scalar : ∀ {v0 : Value}, v = v0 → v0.cells = #[v0] → D.agg = false → (D.agg = false ∧ ∃ q, PTy T t [q] ∧ ARel (fun b => b < W.heap.size) [] W (.pv q) v) := fun hv hc ha => by
    subst hv
    rw [hc] at h2
    match qs, h1, h2 with
    | [q], h1, h2 => exact ⟨ha, q, h1, .pv (h2.2 0 q v rfl rfl).2⟩
    | [], h1, h2 => exact absurd h2.1 (by simp)
    | a :: b :: l, h1, h2 => exact absurd h2.1 (by simp)
  cases n with
  | zero => simp [plain] at hp
  | succ n =>
    obtain ⟨size, bytes, agg, tk, zero⟩ := D
    simp only [plain, h3] at hp
    obtain ⟨i, u, z, hi, hu, _, _, hsz, _, _, htk, _⟩ := look_spec hT h3
    split at hp
    · simp only [Bool.and_eq_true, Bool.not_eq_true'] at hp
      rw [tkOf_int htk] at hu
      obtain ⟨x, hx⟩ := okWide_int hu ho
      exact .inl (scalar hx rfl hp.2)
    · simp only [Bool.and_eq_true, Bool.not_eq_true'] at hp
      rw [tkOf_bool htk] at hu
      obtain ⟨x, hx⟩ := okWide_bool hu ho
      exact .inl (scalar hx rfl hp.2)
    · simp only [Bool.and_eq_true, Bool.not_eq_true'] at hp
      rw [tkOf_str htk] at hu
      obtain ⟨x, hx⟩ := okWide_string hu ho
      exact .inl (scalar hx rfl hp.2)
    · simp only [Bool.and_eq_true, Bool.not_eq_true'] at hp
      rw [tkOf_slice htk] at hu
      obtain ⟨x, y, z, hx⟩ := okWide_slice hu ho
      exact .inl (scalar hx rfl hp.1.1.2)
    · simp only [Bool.and_eq_true] at hp
      obtain ⟨Fs, rfl, _⟩ := tkOf_struct htk
      simp only [Value.okWide, hu] at ho
      obtain ⟨cs, rfl, _⟩ := ho
      exact .inr ⟨hp.1.2, qs, h1, reads_agg h2⟩
    · cases hp

theorem args_in (hT : TabOk P T) {n base : Nat} : ∀ (ts : List TypeId) (vs : List Value) (ds : List (DataW H)) (ps : List MemPlace), DataW.TrodAll enc P W 0 (fun _ => true) true ts vs ds ps → (∀ t ∈ ts, plain T n t = true) →
    (∀ (j : Nat) t v, ts[j]? = some t → vs[j]? = some v → Value.okWide P W .any base t v) → ds.length = ts.length ∧ ∃ as, ArgsOk T ts as ∧ as.length = vs.length ∧ ∀ (j : Nat) c, as[j]? = some c → ∃ v, vs[j]? = some v ∧ ARel (fun b => b < W.heap.size) [] W c v
  | [], [], [], ps, _, _, _ => ⟨rfl, [], .nil, rfl, fun j c h => by simp at h⟩
  | t :: ts, v :: vs, d :: ds, ps, h, hp, ho => by
    obtain ⟨p, q, h1, h2, _⟩ := h
    obtain ⟨hl, as, h3, h4, h5⟩ := args_in hT ts vs ds q h2 (fun t ht => hp t (by simp [ht])) (fun j t v hj hv => ho (j + 1) t v (by simpa using hj) (by simpa using hv))
    obtain ⟨D, hD, hcase⟩ := arg_in hT (hp t (by simp)) h1 (ho 0 t v rfl rfl)
    refine ⟨by simp [hl], ?_⟩
    have fin : ∀ a, ArgsOk T (t :: ts) (a :: as) → ARel (fun b => b < W.heap.size) [] W a v → ∃ as, ArgsOk T (t :: ts) as ∧ as.length = (v :: vs).length ∧ ∀ (j : Nat) c, as[j]? = some c → ∃ v', (v :: vs)[j]? = some v' ∧ ARel (fun b => b < W.heap.size) [] W c v' := fun a ha hr =>
      ⟨_, ha, by simp [h4], fun j c hj => by
        cases j with
        | zero => simp at hj; subst hj; exact ⟨v, rfl, hr⟩
        | succ j => simpa using h5 j c (by simpa using hj)⟩
    rcases hcase with ⟨ha, q, hq, hr⟩ | ⟨ha, qs, hq, hr⟩
    · exact fin _ (.one hq hD ha h3) hr
    · exact fin _ (.agg hq hD ha h3) hr
  | [], _ :: _, _, _, h, _, _ => by simp [DataW.TrodAll] at h
  | [], [], _ :: _, _, h, _, _ => by simp [DataW.TrodAll] at h
  | _ :: _, [], _, _, h, _, _ => by simp [DataW.TrodAll] at h
  | _ :: _, _ :: _, [], _, h, _, _ => by simp [DataW.TrodAll] at h

theorem trodAll_again (hlaid : laidOutB P = true) {W' : World} (hb : Below W.heap.size W W') : ∀ (ts : List TypeId) (vs : List Value) (ds : List (DataW H)) (ps : List MemPlace), DataW.TrodAll enc P W 0 (fun _ => true) true ts vs ds ps →
    (∀ t ∈ ts, P.readableRec t = true ∧ t < P.types.size) → DataW.TrodAll enc P W' 0 (fun b => decide (b < W.heap.size)) true ts vs ds ps
  | [], [], [], ps, h, _ => h
  | t :: ts, v :: vs, d :: ds, ps, h, hp => by
    obtain ⟨p, q, h1, h2, e⟩ := h
    refine ⟨p, q, ?_, trodAll_again hlaid hb ts vs ds q h2 (fun t ht => hp t (by simp [ht])), e⟩
    exact Below.trod hlaid (hp t (by simp)).1 (hp t (by simp)).2 h1 hb (by obtain ⟨m, hm⟩ := h1; exact DataW.trod_lt m _ _ _ hm)
  | [], _ :: _, _, _, h, _ => by simp [DataW.TrodAll] at h
  | [], [], _ :: _, _, h, _ => by simp [DataW.TrodAll] at h
  | _ :: _, [], _, _, h, _ => by simp [DataW.TrodAll] at h
  | _ :: _, _ :: _, [], _, h, _ => by simp [DataW.TrodAll] at h

/-- What a row asks of a law, from the law's contract. -/
theorem law_step (hT : TabOk P T) (hlaid : laidOutB P = true) (n : Nat) {f : FuncId} {fn : Func} {s : ChangeSpec} {tb : TypeId} (hvars : s.vars = [])
    (hplain : fn.params.toList.all (fun t => plain T n t && P.readableRec t && Nat.blt t P.types.size) = true) (hres : fn.resultTypes = #[tb]) (hb : P.underlying tb = some .bool)
    (hspec : ∀ ds : List (DataW H), ds.length = fn.params.size → (s.fn H ds).results = [.lit (.bool true)] ∧ (s.fn H ds).args = ds ∧ (s.fn H ds).vars = [])
    {base : Nat} {args : Array Value} {ds gs : List (DataW H)} {before : List MemPlace}
    (hcall : ∀ as, ArgsOk T fn.params.toList as → ACall P f as [] (fun r H' => r = vbool true))
    (hval : ∀ (j : Nat) t v, fn.params[j]? = some t → args[j]? = some v → Value.okWide P W .any base t v)
    (hW : DataW.Whole enc P fn.params.toList s.vars false W args.toList ds gs before) :
    Calls P f args W fun e W' => ∃ v, e = .returned v ∧ s.post enc P fn false true false false W args v W' := by
  have hW' := hW
  obtain ⟨p, q, hA, hV, rfl, hfz, hnd⟩ := hW
  simp only [List.all_eq_true, Bool.and_eq_true, Nat.blt_eq] at hplain
  obtain ⟨hlen, as, h1, h2, h3⟩ := args_in hT (n := n) (base := base) _ _ _ _ hA (fun t ht => (hplain t ht).1.1) (fun j t v hj hv => hval j t v (by simpa using hj) (by simpa using hv))
  have hgs : gs = [] ∧ q = [] := by rw [hvars] at hV; exact trodVars_none hV
  obtain ⟨rfl, rfl⟩ := hgs
  obtain ⟨hent, hc⟩ := hcall as h1
  have hsim : HSim (fun b => b < W.heap.size) [] [] W := ⟨rfl, fun i o h => by simp at h, fun i j oi oj b b' h => by simp at h, fun b h => h, fun i b h => by simp at h⟩
  refine (hc _ [] W args hsim (by rw [h2]; simp) (fun j c hj => by
    obtain ⟨v, hv, hr⟩ := h3 j c hj
    have : args[j]? = some v := by simpa using hv
    rw [Array.getD_eq_getD_getElem?, this]; exact hr)).mono fun e W' he => ?_
  obtain ⟨r, H', I', β', v, rfl, rfl, hH', hr, hevo⟩ := he
  have hv : v = .bool true := val_inv hr
  subst hv
  have bel : Below W.heap.size W W' := ⟨hevo.os, hevo.tape, hevo.output, hevo.size, fun k hk => hevo.keep k hk (fun i => by simp)⟩
  obtain ⟨s1, s2, s3⟩ := hspec (ds ++ []) (by simpa using hlen)
  refine ⟨_, rfl, ds, [], p ++ [], [], p, [], hW', ?_, ?_, ?_, bel.frame _, fun h => by cases h⟩
  · rw [s1, hres]; exact trodAll_mk1 (shut_bool hb _)
  · rw [s2, List.append_nil]
    exact trodAll_again hlaid bel _ _ _ _ hA (fun t ht => ⟨(hplain t ht).1.2, (hplain t ht).2⟩)
  · rw [s3, hvars]; rfl

end
end Go.Cw

/-
  Cw, part XA: an abstract state without unknowns is run by computation: definitions, one operation.
-/
namespace Go.Cw
set_option linter.unusedVariables false
set_option linter.unusedSimpArgs false

def exInt (op : BinOp) (k : IntKind) (x y : Int) : Option AV :=
  match op with
  | .add => some (vint k (k.wrap (x + y)))
  | .sub => some (vint k (k.wrap (x - y)))
  | .mul => some (vint k (k.wrap (x * y)))
  | .quo => if y = 0 then none else some (vint k (k.wrap (x.tdiv y)))
  | .rem => if y = 0 then none else some (vint k (x.tmod y))
  | .and => some (vint k (bits .and k x y))
  | .or => some (vint k (bits .or k x y))
  | .xor => some (vint k (bits .xor k x y))
  | .andNot => some (vint k (bits .andNot k x y))
  | .eql => some (vbool (x == y))
  | .neq => some (vbool (x != y))
  | .lss => some (vbool (decide (x < y)))
  | .leq => some (vbool (decide (x ≤ y)))
  | .gtr => some (vbool (decide (x > y)))
  | .geq => some (vbool (decide (x ≥ y)))
  | _ => none

theorem exInt_ok {op : BinOp} {k : IntKind} {x y : Int} {r : AV} {K : AV → Prop} (h : exInt op k x y = some r) (hk : K r) : intBin op k x y K := by
  cases op <;> simp only [exInt, intBin, eqv_eq] at h ⊢ <;> first
    | (injection h with h; subst h; exact hk)
    | (split at h
       · cases h
       · rename_i hy; injection h with h; subst h; exact ⟨hy, hk⟩)
    | cases h

def exStr (op : BinOp) (x y : ByteArray) : Option AV :=
  match op with
  | .eql => some (vbool (x.toList == y.toList))
  | .neq => some (vbool (!(x.toList == y.toList)))
  | .lss => some (vbool (Op.bytesLess x.toList y.toList))
  | .leq => some (vbool (Op.bytesLess x.toList y.toList || x.toList == y.toList))
  | .gtr => some (vbool (!(Op.bytesLess x.toList y.toList || x.toList == y.toList)))
  | .geq => some (vbool (!Op.bytesLess x.toList y.toList))
  | .add => if x.size + y.size ≤ 9223372036854775807 then some (.pv (.val (.string (x ++ y)))) else none
  | _ => none

theorem exStr_ok {op : BinOp} {x y : ByteArray} {r : AV} {K : AV → Prop} (h : exStr op x y = some r) (hk : K r) : strBin op x y K := by
  cases op <;> simp only [exStr, strBin] at h ⊢ <;> first
    | (injection h with h; subst h; exact hk)
    | (split at h
       · rename_i hy; injection h with h; subst h; exact ⟨hy, hk⟩
       · cases h)
    | cases h

def exEq (op : BinOp) (tk : TK) (x y : AV) : Option AV :=
  match op, tk, x, y with
  | .eql, .bool, .pv (.val (.bool a)), .pv (.val (.bool b)) => some (vbool (a == b))
  | .neq, .bool, .pv (.val (.bool a)), .pv (.val (.bool b)) => some (vbool (!(a == b)))
  | .eql, .slice _, .pv (.val (.slice none 0 0)), .pv (.val (.slice none 0 0)) => some (vbool true)
  | .neq, .slice _, .pv (.val (.slice none 0 0)), .pv (.val (.slice none 0 0)) => some (vbool false)
  | .eql, .slice _, .pv (.sl _ (_ :: _)), .pv (.val (.slice none 0 0)) => some (vbool false)
  | .neq, .slice _, .pv (.sl _ (_ :: _)), .pv (.val (.slice none 0 0)) => some (vbool true)
  | .eql, .slice _, .ms .., .pv (.val (.slice none 0 0)) => some (vbool false)
  | .neq, .slice _, .ms .., .pv (.val (.slice none 0 0)) => some (vbool true)
  | _, _, _, _ => none

theorem exEq_ok {op : BinOp} {tk : TK} {x y : AV} {r : AV} {K : AV → Prop} (h : exEq op tk x y = some r) (hk : K r) : eqBin op tk x y K := by
  unfold exEq at h
  split at h <;> first
    | (injection h with h; subst h; simp only [eqBin]; exact hk)
    | (injection h with h; subst h; simp only [eqBin]; exact ⟨by simp, hk⟩)
    | cases h

def exBin (T : Tab) (op : BinOp) (t : TypeId) (x y : AV) : Option AV :=
  match x, y with
  | .pv (.val (.int k a)), .pv (.val (.int k' b)) => match op with
    | .shl => if 0 ≤ b then some (vint k (k.wrap (a * 2 ^ (min b.toNat k.bits)))) else none
    | .shr => if 0 ≤ b then some (vint k (a.fdiv (2 ^ (min b.toNat k.bits)))) else none
    | _ => match ixEq k k' with
      | true => exInt op k a b
      | false => none
  | .pv (.val (.string a)), .pv (.val (.string b)) => exStr op a b
  | x, y => match look T t with
    | some ⟨size, bytes, agg, tk, zero⟩ => exEq op tk x y
    | none => none

theorem exBin_ok {T : Tab} {op : BinOp} {t : TypeId} {x y : AV} {r : AV} {K : AV → Prop} (h : exBin T op t x y = some r) (hk : K r) : vcBin T op t x y K := by
  unfold exBin at h
  unfold vcBin
  split at h
  · split at h
    · split at h
      · rename_i h0; injection h with h; subst h; exact ⟨h0, hk⟩
      · cases h
    · split at h
      · rename_i h0; injection h with h; subst h; exact ⟨h0, hk⟩
      · cases h
    · split at h
      · rename_i h0; simp only [h0]; exact exInt_ok h hk
      · cases h
  · exact exStr_ok h hk
  · split at h
    · rename_i h0; simp only [h0]; exact exEq_ok h hk
    · cases h

def exUn (op : UnOp) (x : AV) : Option AV :=
  match op, x with
  | .neg, .pv (.val (.int k n)) => some (vint k (k.wrap (0 - n)))
  | .not, .pv (.val (.bool b)) => some (vbool (!b))
  | _, _ => none

theorem exUn_ok {op : UnOp} {x r : AV} {K : AV → Prop} (h : exUn op x = some r) (hk : K r) : vcUn op x K := by
  unfold exUn at h
  split at h <;> first
    | (injection h with h; subst h; simp only [vcUn, eqv_eq]; exact hk)
    | (injection h with h; subst h; exact hk)
    | cases h

def exTake (size : Nat) (agg : Bool) (cs : List AV) : Option AV :=
  match agg with
  | true => match Nat.ble size cs.length with
    | true => some (.agg (cs.take size))
    | false => none
  | false => match cs with
    | c :: _ => some c
    | [] => none

theorem exTake_ok {size : Nat} {agg : Bool} {cs : List AV} {r : AV} {K : AV → Prop} (h : exTake size agg cs = some r) (hk : K r) : vcTake size agg cs K := by
  unfold exTake at h
  split at h
  · split at h
    · rename_i h0; injection h with h; subst h; simp only [vcTake, h0]; exact hk
    · cases h
  · split at h
    · injection h with h; subst h; exact hk
    · cases h

def exLoad (T : Tab) (t : TypeId) (x : AV) (H : Heap) : Option (AV × List Nat) :=
  match look T t with
  | none => none
  | some ⟨size, bytes, agg, tk, zero⟩ => match x with
    | .pv (.ia cs) => (exTake size agg (pvs cs)).map fun v => (v, [])
    | .ptr id z row col => match H[id]? with
      | some (some o) => match Nat.beq z o.z, o.rows with
        | true, .box cs => match row with
          | 0 => (exTake size agg (cs.drop col)).map fun v => (v, [id])
          | _ => none
        | true, .p xs => match xs[row]? with
          | some r => (exTake size agg (pvs (r.drop col))).map fun v => (v, [id])
          | none => none
        | true, .m xs => match xs[row]? with
          | some r => (exTake size agg (r.drop col)).map fun v => (v, [id])
          | none => none
        | _, _ => none
      | _ => none
    | _ => none

theorem exLoad_ok {T : Tab} {t : TypeId} {x : AV} {H : Heap} {r : AV} {rd : List Nat} {K : AV → List Nat → Prop} (h : exLoad T t x H = some (r, rd)) (hk : K r rd) : vcLoad T t x H K := by
  have fin : ∀ {size : Nat} {agg : Bool} {cs : List AV} {l : List Nat}, (exTake size agg cs).map (fun v => (v, l)) = some (r, rd) → vcTake size agg cs fun v => K v l := fun h => by
    obtain ⟨v, h1, h2⟩ := Option.map_eq_some_iff.1 h
    injection h2 with h2 h3; subst h2; subst h3
    exact exTake_ok h1 hk
  unfold exLoad at h
  split at h
  · cases h
  · rename_i h1
    split at h
    · simp only [vcLoad, h1]; exact fin h
    · split at h
      · rename_i h2
        split at h
        · rename_i h3 h4
          split at h
          · simp only [vcLoad, h1, h2, h3, h4]; exact fin h
          · cases h
        · rename_i h3 h4
          split at h
          · rename_i h5; simp only [vcLoad, h1, h2, h3, h4]; exact ⟨_, h5, fin h⟩
          · cases h
        · rename_i h3 h4
          split at h
          · rename_i h5; simp only [vcLoad, h1, h2, h3, h4]; exact ⟨_, h5, fin h⟩
          · cases h
        · cases h
      · cases h
    · cases h

def exStore (T : Tab) (t : TypeId) (x v : AV) (H : Heap) : Option (Upd × List Nat) :=
  match look T t with
  | none => none
  | some ⟨size, bytes, agg, tk, zero⟩ => match (Nat.beq (cellsOf v).length size && allOne (cellsOf v)) && Nat.blt 0 size with
    | false => none
    | true => match x with
      | .ptr id z row col => match H[id]? with
        | some (some o) => match !o.fz && Nat.beq z o.z with
          | false => none
          | true => match o.rows with
            | .box cs => match row with
              | 0 => match Nat.ble (col + size) cs.length with
                | true => some ([(id, some { o with rows := .box (splice col (cellsOf v) cs) })], [id])
                | false => none
              | _ => none
            | .p xs => match purify (cellsOf v) with
              | some ps => match xs[row]? with
                | some r => match Nat.ble (col + size) r.length with
                  | true => some ([(id, some { o with rows := .p (xs.set row (splice col ps r)) })], [id])
                  | false => none
                | none => none
              | none => match xs[row]? with
                | some r => match Nat.ble (col + size) r.length with
                  | true => some ([(id, some { o with rows := .m ((xs.map pvs).set row (splice col (cellsOf v) (pvs r))) })], [id])
                  | false => none
                | none => none
            | .m xs => match xs[row]? with
              | some r => match Nat.ble (col + size) r.length with
                | true => some ([(id, some { o with rows := .m (xs.set row (splice col (cellsOf v) r)) })], [id])
                | false => none
              | none => none
        | _ => none
      | _ => none

theorem exStore_ok {T : Tab} {t : TypeId} {x v : AV} {H : Heap} {u : Upd} {rd : List Nat} {K : Upd → List Nat → Prop} (h : exStore T t x v H = some (u, rd)) (hk : K u rd) : vcStore T t x v H K := by
  unfold exStore at h
  split at h
  · cases h
  · rename_i h1
    split at h
    · cases h
    · rename_i h2
      split at h
      · split at h
        · rename_i h3
          split at h
          · cases h
          · rename_i h4
            split at h
            · rename_i h5
              split at h
              · split at h
                · rename_i h6; injection h with h; injection h with ha hb; subst ha; subst hb
                  simp only [vcStore, eqv_eq, h1, h2, h3, h4, h5, h6]; exact hk
                · cases h
              · cases h
            · rename_i h5
              split at h
              · rename_i h6
                split at h
                · rename_i h7
                  split at h
                  · rename_i h8; injection h with h; injection h with ha hb; subst ha; subst hb
                    simp only [vcStore, eqv_eq, h1, h2, h3, h4, h5, h6]; exact ⟨_, h7, Nat.le_of_ble_eq_true h8, hk⟩
                  · cases h
                · cases h
              · rename_i h6
                split at h
                · rename_i h7
                  split at h
                  · rename_i h8; injection h with h; injection h with ha hb; subst ha; subst hb
                    simp only [vcStore, eqv_eq, h1, h2, h3, h4, h5, h6]; exact ⟨_, h7, Nat.le_of_ble_eq_true h8, hk⟩
                  · cases h
                · cases h
            · rename_i h5
              split at h
              · rename_i h7
                split at h
                · rename_i h8; injection h with h; injection h with ha hb; subst ha; subst hb
                  simp only [vcStore, eqv_eq, h1, h2, h3, h4, h5]; exact ⟨_, h7, Nat.le_of_ble_eq_true h8, hk⟩
                · cases h
              · cases h
        · cases h
      · cases h

end Go.Cw

/-
  Cw, part XB: one operation, continued.
-/
namespace Go.Cw
set_option linter.unusedVariables false
set_option linter.unusedSimpArgs false
section
variable {T : Tab} {H : Heap} {K : AV → Prop} {r : AV}

def exBuild (T : Tab) (t : TypeId) (parts : List (Nat × Operand)) (ρ : Operand → Option AV) : Option AV :=
  match look T t with
  | some ⟨size, bytes, agg, tk, zero⟩ => match tk with
    | .struct fs => match fs.all (fun f => (look T f.2).isSome), buildCells T fs ρ (pvs zero) parts with
      | true, some cs => some (.agg cs)
      | _, _ => none
    | _ => none
  | none => none

theorem exBuild_ok {t : TypeId} {parts : List (Nat × Operand)} {ρ : Operand → Option AV} (h : exBuild T t parts ρ = some r) (hk : K r) : vcBuild T t parts ρ K := by
  unfold exBuild at h
  split at h
  · rename_i h1
    split at h
    · split at h
      · rename_i h2 h3; injection h with h; subst h; simp only [vcBuild, h1, h2, h3]; exact hk
      · cases h
    · cases h
  · cases h

def natOf (n : Int) : Option Nat :=
  match n with
  | .ofNat k => some k
  | _ => none

theorem natOf_eq {n : Int} {k : Nat} (h : natOf n = some k) : n = ↑k := by
  cases n <;> simp [natOf] at h; subst h; rfl

def exIndexAddr (T : Tab) (t : TypeId) (x i : AV) : Option AV :=
  match look T t, i with
  | some ⟨size, bytes, agg, tk, zero⟩, .pv (.val (.int _ n)) => match tk, x with
    | .slice e, .pv (.sl z xs) => match look T e with
      | some ⟨esize, ebytes, _, _, ezero⟩ => match Nat.beq esize z, natOf n with
        | true, some k => match xs[k]? with
          | some r => some (.pv (.ia r))
          | none => none
        | _, _ => none
      | none => none
    | .slice e, .ms id z off len => match look T e with
      | some ⟨esize, ebytes, _, _, ezero⟩ => match Nat.beq esize z, natOf n with
        | true, some k => match Nat.blt k len with
          | true => some (.ptr id z (off + k) 0)
          | false => none
        | _, _ => none
      | none => none
    | _, _ => none
  | _, _ => none

theorem exIndexAddr_ok {t : TypeId} {x i : AV} (h : exIndexAddr T t x i = some r) (hk : K r) : vcIndexAddr T t x i K := by
  unfold exIndexAddr at h
  split at h
  · rename_i h1
    split at h
    · split at h
      · rename_i h2
        split at h
        · rename_i h3 h4
          split at h
          · rename_i h5; injection h with h; subst h
            simp only [vcIndexAddr, eqv_eq, h1, h2, h3]; exact ⟨_, _, natOf_eq h4, h5, hk⟩
          · cases h
        · cases h
      · cases h
    · split at h
      · rename_i h2
        split at h
        · rename_i h3 h4
          split at h
          · rename_i h5; injection h with h; subst h
            simp only [vcIndexAddr, eqv_eq, h1, h2, h3]; exact ⟨_, natOf_eq h4, by simpa [Nat.blt_eq] using h5, hk⟩
          · cases h
        · cases h
      · cases h
    · cases h
  · cases h

def exFieldAddr (T : Tab) (s : TypeId) (x : AV) (f : Nat) : Option AV :=
  match look T s with
  | some ⟨size, bytes, agg, tk, zero⟩ => match tk with
    | .struct fs => match fs[f]? with
      | some (off, ft) => match look T ft with
        | some ⟨fsize, _, _, _, _⟩ => match Nat.blt 0 fsize with
          | true => match x with
            | .pv (.ia cs) => match Nat.ble off cs.length with
              | true => some (.pv (.ia (cs.drop off)))
              | false => none
            | .ptr id z row col => some (.ptr id z row (col + off))
            | _ => none
          | false => none
        | none => none
      | none => none
    | _ => none
  | none => none

theorem exFieldAddr_ok {s : TypeId} {x : AV} {f : Nat} (h : exFieldAddr T s x f = some r) (hk : K r) : vcFieldAddr T s x f K := by
  unfold exFieldAddr at h
  split at h
  · rename_i h1
    split at h
    · split at h
      · rename_i h2
        split at h
        · rename_i h3
          split at h
          · rename_i h4
            split at h
            · split at h
              · rename_i h5; injection h with h; subst h
                simp only [vcFieldAddr, h1, h2, h3, h4, h5]; exact hk
              · cases h
            · injection h with h; subst h
              simp only [vcFieldAddr, h1, h2, h3, h4]; exact hk
            · cases h
          · cases h
        · cases h
      · cases h
    · cases h
  · cases h

def exField (T : Tab) (s : TypeId) (x : AV) (f : Nat) : Option AV :=
  match look T s, x with
  | some ⟨size, bytes, agg, tk, zero⟩, .agg cs => match tk with
    | .struct fs => match fs[f]? with
      | some (off, t) => match look T t with
        | some ⟨tsize, _, tagg, _, _⟩ => exTake tsize tagg (cs.drop off)
        | none => none
      | none => none
    | _ => none
  | _, _ => none

theorem exField_ok {s : TypeId} {x : AV} {f : Nat} (h : exField T s x f = some r) (hk : K r) : vcField T s x f K := by
  unfold exField at h
  split at h
  · rename_i h1
    split at h
    · split at h
      · rename_i h2
        split at h
        · rename_i h3
          simp only [vcField, h1, h2, h3]; exact exTake_ok h hk
        · cases h
      · cases h
    · cases h
  · cases h

def exLen (T : Tab) (t : TypeId) (x : AV) : Option AV :=
  match look T t with
  | some ⟨size, bytes, agg, tk, zero⟩ => match tk, x with
    | .slice _, .pv (.val (.slice _ n _)) => some (vint .i64 n)
    | .str, .pv (.val (.string s)) => some (vint .i64 s.size)
    | .slice _, .pv (.sl _ xs) => some (vint .i64 xs.length)
    | .slice _, .ms _ _ _ n => some (vint .i64 n)
    | _, _ => none
  | none => none

theorem exLen_ok {t : TypeId} {x : AV} (h : exLen T t x = some r) (hk : K r) : vcLen T t x K := by
  unfold exLen at h
  split at h
  · rename_i h1
    split at h <;> first
      | (injection h with h; subst h; simp only [vcLen, eqv_eq, h1]; exact hk)
      | cases h
  · cases h

def exLo (lo : Option AV) : Option Nat :=
  match lo with
  | none => some 0
  | some (.pv (.val (.int _ n))) => natOf n
  | _ => none

def exHi (hi : Option AV) (len : Nat) : Option Nat :=
  match hi with
  | none => some len
  | some (.pv (.val (.int _ n))) => natOf n
  | _ => none

theorem exLo_ok {lo : Option AV} {l : Nat} (h : exLo lo = some l) : loIs lo l := by
  unfold exLo at h
  split at h
  · injection h with h; exact h.symm
  · exact natOf_eq h
  · cases h
theorem exHi_ok {hi : Option AV} {len l : Nat} (h : exHi hi len = some l) : hiIs hi len l := by
  unfold exHi at h
  split at h
  · injection h with h; exact h.symm
  · exact natOf_eq h
  · cases h

def exSlice (T : Tab) (t : TypeId) (x : AV) (lo hi : Option AV) : Option AV :=
  match look T t with
  | some ⟨size, bytes, agg, tk, zero⟩ => match tk, x with
    | .slice e, .pv (.sl z xs) => match look T e with
      | some ⟨esize, ebytes, _, _, ezero⟩ => match Nat.beq esize z, exLo lo, exHi hi xs.length with
        | true, some l, some h => match Nat.ble l h && Nat.ble h xs.length with
          | true => some (.pv (.sl z ((xs.take h).drop l)))
          | false => none
        | _, _, _ => none
      | none => none
    | .slice e, .ms id z off len => match look T e with
      | some ⟨esize, ebytes, _, _, ezero⟩ => match Nat.beq esize z, exLo lo, exHi hi len with
        | true, some l, some h => match Nat.ble l h && Nat.ble h len with
          | true => some (.ms id z (off + l) (h - l))
          | false => none
        | _, _, _ => none
      | none => none
    | .str, .pv (.val (.string s)) => match exLo lo, exHi hi s.size with
      | some l, some h => match Nat.ble l h && Nat.ble h s.size with
        | true => some (.pv (.val (.string (s.extract l h))))
        | false => none
      | _, _ => none
    | _, _ => none
  | none => none

theorem exSlice_ok {t : TypeId} {x : AV} {lo hi : Option AV} (h : exSlice T t x lo hi = some r) (hk : K r) : vcSlice T t x lo hi K := by
  unfold exSlice at h
  split at h
  · rename_i h1
    split at h
    · split at h
      · rename_i h2
        split at h
        · rename_i h3 h4 h5
          split at h
          · rename_i h6; injection h with h; subst h
            simp only [Bool.and_eq_true, Nat.ble_eq] at h6
            simp only [vcSlice, eqv_eq, h1, h2, h3]; exact ⟨_, _, exLo_ok h4, exHi_ok h5, h6.1, h6.2, hk⟩
          · cases h
        · cases h
      · cases h
    · split at h
      · rename_i h2
        split at h
        · rename_i h3 h4 h5
          split at h
          · rename_i h6; injection h with h; subst h
            simp only [Bool.and_eq_true, Nat.ble_eq] at h6
            simp only [vcSlice, eqv_eq, h1, h2, h3]; exact ⟨_, _, exLo_ok h4, exHi_ok h5, h6.1, h6.2, hk⟩
          · cases h
        · cases h
      · cases h
    · split at h
      · rename_i h4 h5
        split at h
        · rename_i h6; injection h with h; subst h
          simp only [Bool.and_eq_true, Nat.ble_eq] at h6
          simp only [vcSlice, eqv_eq, h1]; exact ⟨_, _, exLo_ok h4, exHi_ok h5, h6.1, h6.2, hk⟩
        · cases h
      · cases h
    · cases h
  · cases h

def exPick (c : AV) (a b : Option AV) : Option AV :=
  match c with
  | .pv (.val (.bool true)) => a
  | .pv (.val (.bool false)) => b
  | _ => none

theorem exPick_ok {c : AV} {a b : Option AV} (h : exPick c a b = some r) (hk : K r) : vcPick c a b K := by
  unfold exPick at h
  split at h
  · subst h; exact ⟨fun _ => hk, fun e => by cases e⟩
  · subst h; exact ⟨fun e => (by cases e), fun _ => hk⟩
  · cases h

def exMinMax (isMax : Bool) (xs : List (Option AV)) : Option AV :=
  match xs with
  | [some (.pv (.val (.int k a))), some (.pv (.val (.int k' b)))] => match ixEq k k' with
    | true => some (vint k (bif isMax then (if b > a then b else a) else (if b < a then b else a)))
    | false => none
  | _ => none

theorem exMinMax_ok {m : Bool} {xs : List (Option AV)} (h : exMinMax m xs = some r) (hk : K r) : vcMinMax m xs K := by
  unfold exMinMax at h
  split at h
  · split at h
    · rename_i h1; injection h with h; subst h; simp only [vcMinMax, h1]; exact hk
    · cases h
  · cases h

def exAppend (T : Tab) (t : TypeId) (site : Nat) (s x : AV) (H : Heap) : Option (AV × Upd × List Nat) :=
  match look T t with
  | some ⟨size, bytes, agg, tk, zero⟩ => match tk with
    | .slice e => match look T e with
      | some ⟨esize, ebytes, _, _, ezero⟩ => match srcOk esize x && Nat.blt 0 esize, srcRows H x with
        | true, some (rx, rdx) => match s with
          | .pv (.val (.slice none 0 0)) => match Nat.beq (srcLen x) (rowsLen rx) && (Nat.ble (rowsLen rx * ebytes) 140737488355328 && Nat.ble (rowsLen rx) 9223372036854775807) with
            | true => match rowsLen rx with
              | 0 => some (.pv (.val (.slice none 0 0)), [], rdx)
              | m + 1 => some (.ms site esize 0 (m + 1), [(site, some ⟨e, esize, false, rx⟩)], rdx)
            | false => none
          | .ms id z off len => match Nat.beq z esize, H[id]? with
            | true, some (some o) => match !o.fz && (Nat.beq o.ty e && Nat.beq o.z esize), catRows (dropR off o.rows) rx with
              | true, some rr => match Nat.beq (off + len) (rowsLen o.rows) && Nat.beq (srcLen x) (rowsLen rx) && (Nat.ble (rowsLen rr * ebytes) 140737488355328 && Nat.ble (rowsLen rr) 9223372036854775807) with
                | true => some (.ms site esize 0 (rowsLen rr), [(id, none), (site, some ⟨e, esize, false, rr⟩)], id :: rdx)
                | false => none
              | _, _ => none
            | _, _ => none
          | _ => none
        | _, _ => none
      | none => none
    | _ => none
  | none => none

theorem exAppend_ok {t : TypeId} {site : Nat} {s x : AV} {u : Upd} {rd : List Nat} {K : AV → Upd → List Nat → Prop} (h : exAppend T t site s x H = some (r, u, rd)) (hk : K r u rd) : vcAppend T t site s x H K := by
  unfold exAppend at h
  split at h
  · rename_i h1
    split at h
    · split at h
      · rename_i h2
        split at h
        · rename_i rx rdx h3 h4
          split at h
          · split at h
            · rename_i h5
              simp only [Bool.and_eq_true, Nat.ble_eq, Nat.beq_eq] at h5
              split at h
              · rename_i h6; injection h with h; injection h with ha hb; injection hb with hb hc; subst ha; subst hb; subst hc
                simp only [vcAppend, eqv_eq, h1, h2, h3, h4]; exact ⟨h5.1, h5.2.1, h5.2.2, fun h => by omega, fun _ => hk⟩
              · rename_i m h6; injection h with h; injection h with ha hb; injection hb with hb hc; subst ha; subst hb; subst hc
                simp only [vcAppend, eqv_eq, h1, h2, h3, h4]; exact ⟨h5.1, h5.2.1, h5.2.2, fun _ => by rw [h6]; exact hk, fun h => by omega⟩
            · cases h
          · split at h
            · rename_i h5 h6
              split at h
              · rename_i h7 h8
                split at h
                · rename_i h9
                  simp only [Bool.and_eq_true, Nat.ble_eq, Nat.beq_eq] at h9
                  injection h with h; injection h with ha hb; injection hb with hb hc; subst ha; subst hb; subst hc
                  simp only [vcAppend, eqv_eq, h1, h2, h3, h4, h5, h6, h7, h8]; exact ⟨h9.1.1, h9.1.2, h9.2.1, h9.2.2, hk⟩
                · cases h
              · cases h
            · cases h
          · cases h
        · cases h
      · cases h
    · cases h
  · cases h

def exMakeSlice (T : Tab) (t : TypeId) (site : Nat) (l c : AV) : Option (AV × Upd × List Nat) :=
  match look T t, l, c with
  | some ⟨size, bytes, agg, tk, zero⟩, .pv (.val (.int .i64 n)), .pv (.val (.int .i64 m)) => match tk with
    | .slice e => match look T e with
      | some ⟨esize, ebytes, _, _, ezero⟩ => match allOne (pvs ezero), natOf n, natOf m with
        | true, some j, some k => match Nat.ble j k && (Nat.ble (k * ebytes) 140737488355328 && Nat.ble k 9223372036854775807) with
          | true => some (.ms site esize 0 j, [(site, some ⟨e, esize, false, .p (List.replicate j ezero)⟩)], [])
          | false => none
        | _, _, _ => none
      | none => none
    | _ => none
  | _, _, _ => none

theorem exMakeSlice_ok {t : TypeId} {site : Nat} {l c : AV} {u : Upd} {rd : List Nat} {K : AV → Upd → List Nat → Prop} (h : exMakeSlice T t site l c = some (r, u, rd)) (hk : K r u rd) : vcMakeSlice T t site l c K := by
  unfold exMakeSlice at h
  split at h
  · rename_i h1
    split at h
    · split at h
      · rename_i h2
        split at h
        · rename_i h3 h4 h5
          split at h
          · rename_i h6
            simp only [Bool.and_eq_true, Nat.ble_eq] at h6
            injection h with h; injection h with ha hb; injection hb with hb hc; subst ha; subst hb; subst hc
            simp only [vcMakeSlice, eqv_eq, h1, h2]; exact ⟨h3, _, _, natOf_eq h4, natOf_eq h5, h6.1, h6.2.1, h6.2.2, hk⟩
          · cases h
        · cases h
      · cases h
    · cases h
  · cases h

end
end Go.Cw

/-
  Cw, part XC: one operation, put together; calls.
-/
namespace Go.Cw
set_option linter.unusedVariables false
set_option linter.unusedSimpArgs false
section
variable {T : Tab} {H : Heap}

abbrev Out := AV × Upd × List Nat

def just (v : Option AV) : Option Out :=
  match v with
  | some r => some (r, [], [])
  | none => none

theorem just_ok {v : Option AV} {r : AV} {u : Upd} {rd : List Nat} (h : just v = some (r, u, rd)) : v = some r ∧ u = [] ∧ rd = [] := by
  unfold just at h
  split at h
  · injection h with h; injection h with h1 h; injection h with h2 h3; subst h1; exact ⟨rfl, h2.symm, h3.symm⟩
  · cases h

def exOp (T : Tab) (site : Nat) (op : Op) (ρ : Operand → Option AV) (H : Heap) : Option Out :=
  match op with
  | .move x | .assign x => just (ρ x)
  | .pick c a b => match ρ c with
    | some vc => just (exPick vc (ρ a) (ρ b))
    | none => none
  | .alloc t => match look T t with
    | some ⟨size, bytes, agg, tk, zero⟩ => match allOne (pvs zero) with
      | true => some (.ptr site size 0 0, [(site, some ⟨t, size, false, .box (pvs zero)⟩)], [])
      | false => none
    | none => none
  | .box t x => match look T t, ρ x with
    | some ⟨size, bytes, agg, tk, zero⟩, some v => match Nat.beq (cellsOf v).length size && allOne (cellsOf v) with
      | true => some (.ptr site size 0 0, [(site, some ⟨t, size, false, .box (cellsOf v)⟩)], [])
      | false => none
    | _, _ => none
  | .build t parts => just (exBuild T t parts.toList ρ)
  | .buildSlice t len parts => match look T t with
    | some ⟨size, bytes, agg, tk, zero⟩ => match tk with
      | .slice e => match look T e with
        | some ⟨esize, ebytes, _, _, ezero⟩ => match rowsOf ρ esize 0 parts.toList with
          | some rs => match Nat.beq rs.length len && (Nat.ble (len * esize) 4096 && Nat.ble len 4096) with
            | true => some (.ms site esize 0 len, [(site, some ⟨e, esize, false, mkRows rs⟩)], [])
            | false => none
          | none => none
        | none => none
      | _ => none
    | none => none
  | .load t x => match ρ x with
    | some v => match exLoad T t v H with
      | some (r, f) => some (r, [], f)
      | none => none
    | none => none
  | .store t a x => match ρ a, ρ x with
    | some va, some vx => match exStore T t va vx H with
      | some (u, f) => some (.pv (.val undef), u, f)
      | none => none
    | _, _ => none
  | .nilCheck x => match ρ x with
    | some (.ptr id z row col) => some (.ptr id z row col, [], [])
    | some (.pv (.ia cs)) => some (.pv (.ia cs), [], [])
    | some (.pv (.fn f caps)) => some (.pv (.fn f caps), [], [])
    | some (.fn f caps) => some (.fn f caps, [], [])
    | _ => none
  | .binOp op t x y _ => match ρ x, ρ y with
    | some vx, some vy => just (exBin T op t vx vy)
    | _, _ => none
  | .unOp op _ x => match ρ x with
    | some v => just (exUn op v)
    | none => none
  | .makeFunc (.func f) first caps => match first.toList, caps.toList.mapM ρ with
    | [], some vs => some (.fn f vs, [], [])
    | _, _ => none
  | .makeSlice t l c => match ρ l, ρ c with
    | some vl, some vc => exMakeSlice T t site vl vc
    | _, _ => none
  | .slice t x lo hi none => match ρ x with
    | some v => match lo, hi with
      | none, none => just (exSlice T t v none none)
      | some l, none => match ρ l with
        | some vl => just (exSlice T t v (some vl) none)
        | none => none
      | none, some h => match ρ h with
        | some vh => just (exSlice T t v none (some vh))
        | none => none
      | some l, some h => match ρ l, ρ h with
        | some vl, some vh => just (exSlice T t v (some vl) (some vh))
        | _, _ => none
    | none => none
  | .fieldAddr s x f => match ρ x with
    | some v => just (exFieldAddr T s v f)
    | none => none
  | .field s x f => match ρ x with
    | some v => just (exField T s v f)
    | none => none
  | .indexAddr t x i => match ρ x, ρ i with
    | some vx, some vi => just (exIndexAddr T t vx vi)
    | _, _ => none
  | .extract x i => match ρ x with
    | some (.tup vs) => just vs[i]?
    | _ => none
  | .call { callee := .builtin b, args := args, argTypes := ats } => match b with
    | .len => match args.toList, ats.toList with
      | [x], [t] => match ρ x with
        | some v => just (exLen T t v)
        | none => none
      | _, _ => none
    | .append => match args.toList, ats.toList with
      | [s, x], [t, t2] => match Nat.beq t t2, ρ s, ρ x with
        | true, some vs, some vx => exAppend T t site vs vx H
        | _, _, _ => none
      | _, _ => none
    | .min => just (exMinMax false (args.toList.map ρ))
    | .max => just (exMinMax true (args.toList.map ρ))
    | _ => none
  | _ => none

theorem exOp_ok {site : Nat} {op : Op} {ρ : Operand → Option AV} {r : AV} {u : Upd} {rd : List Nat} {K : AV → Upd → List Nat → Prop} (h : exOp T site op ρ H = some (r, u, rd)) (hk : K r u rd) : vcOp T site op ρ H K := by
  have trip : ∀ {a a' : AV} {b b' : Upd} {c c' : List Nat}, some (a, b, c) = some (a', b', c') → a = a' ∧ b = b' ∧ c = c' := fun h => by
    injection h with h; injection h with h1 h; injection h with h2 h3; exact ⟨h1, h2, h3⟩
  unfold exOp at h
  split at h
  · obtain ⟨hj, rfl, rfl⟩ := just_ok h; simp only [vcOp, hj]; exact hk
  · obtain ⟨hj, rfl, rfl⟩ := just_ok h; simp only [vcOp, hj]; exact hk
  · split at h
    · rename_i h1; obtain ⟨hj, rfl, rfl⟩ := just_ok h; simp only [vcOp, h1]; exact exPick_ok hj hk
    · cases h
  · split at h
    · rename_i h1
      split at h
      · rename_i h2; obtain ⟨rfl, rfl, rfl⟩ := trip h; simp only [vcOp, h1]; exact ⟨h2, hk⟩
      · cases h
    · cases h
  · split at h
    · rename_i h1 h2
      split at h
      · rename_i h3; obtain ⟨rfl, rfl, rfl⟩ := trip h; simp only [vcOp, h1, h2, h3]; exact hk
      · cases h
    · cases h
  · obtain ⟨hj, rfl, rfl⟩ := just_ok h; simp only [vcOp]; exact exBuild_ok hj hk
  · split at h
    · rename_i h1
      split at h
      · split at h
        · rename_i h2
          split at h
          · rename_i h3
            split at h
            · rename_i h4; obtain ⟨rfl, rfl, rfl⟩ := trip h; simp only [vcOp, h1, h2, h3, h4]; exact hk
            · cases h
          · cases h
        · cases h
      · cases h
    · cases h
  · split at h
    · rename_i h1
      split at h
      · rename_i h2; obtain ⟨rfl, rfl, rfl⟩ := trip h; simp only [vcOp, h1]; exact exLoad_ok (K := fun r f => K r [] f) h2 hk
      · cases h
    · cases h
  · split at h
    · rename_i h1 h1'
      split at h
      · rename_i h2; obtain ⟨rfl, rfl, rfl⟩ := trip h; simp only [vcOp, h1, h1']; exact exStore_ok (K := fun u f => K _ u f) h2 hk
      · cases h
    · cases h
  · split at h <;> first
      | (rename_i h1; obtain ⟨rfl, rfl, rfl⟩ := trip h; simp only [vcOp, h1]; exact hk)
      | cases h
  · split at h
    · rename_i h1 h1'; obtain ⟨hj, rfl, rfl⟩ := just_ok h; simp only [vcOp, h1, h1']; exact exBin_ok (K := fun v => K v [] []) hj hk
    · cases h
  · split at h
    · rename_i h1; obtain ⟨hj, rfl, rfl⟩ := just_ok h; simp only [vcOp, h1]; exact exUn_ok (K := fun v => K v [] []) hj hk
    · cases h
  · split at h
    · rename_i h1 h1'; obtain ⟨rfl, rfl, rfl⟩ := trip h; simp only [vcOp, h1, h1']; exact hk
    · cases h
  · split at h
    · rename_i h1 h1'; simp only [vcOp, h1, h1']; exact exMakeSlice_ok h hk
    · cases h
  · split at h
    · rename_i h1
      split at h
      · obtain ⟨hj, rfl, rfl⟩ := just_ok h; simp only [vcOp, h1]; exact exSlice_ok (K := fun v => K v [] []) hj hk
      · split at h
        · rename_i h2; obtain ⟨hj, rfl, rfl⟩ := just_ok h; simp only [vcOp, h1, h2]; exact exSlice_ok (K := fun v => K v [] []) hj hk
        · cases h
      · split at h
        · rename_i h2; obtain ⟨hj, rfl, rfl⟩ := just_ok h; simp only [vcOp, h1, h2]; exact exSlice_ok (K := fun v => K v [] []) hj hk
        · cases h
      · split at h
        · rename_i h2 h3; obtain ⟨hj, rfl, rfl⟩ := just_ok h; simp only [vcOp, h1, h2, h3]; exact exSlice_ok (K := fun v => K v [] []) hj hk
        · cases h
    · cases h
  · split at h
    · rename_i h1; obtain ⟨hj, rfl, rfl⟩ := just_ok h; simp only [vcOp, h1]; exact exFieldAddr_ok (K := fun v => K v [] []) hj hk
    · cases h
  · split at h
    · rename_i h1; obtain ⟨hj, rfl, rfl⟩ := just_ok h; simp only [vcOp, h1]; exact exField_ok (K := fun v => K v [] []) hj hk
    · cases h
  · split at h
    · rename_i h1 h1'; obtain ⟨hj, rfl, rfl⟩ := just_ok h; simp only [vcOp, h1, h1']; exact exIndexAddr_ok (K := fun v => K v [] []) hj hk
    · cases h
  · split at h
    · rename_i h1; obtain ⟨hj, rfl, rfl⟩ := just_ok h; simp only [vcOp, h1, hj]; exact hk
    · cases h
  · split at h
    · split at h
      · rename_i h1 h2
        split at h
        · rename_i h3; obtain ⟨hj, rfl, rfl⟩ := just_ok h; simp only [vcOp, h1, h2, h3]; exact exLen_ok (K := fun v => K v [] []) hj hk
        · cases h
      · cases h
    · split at h
      · rename_i h1 h2
        split at h
        · rename_i h3 h4 h5; simp only [vcOp, h1, h2, h3, h4, h5]; exact exAppend_ok h hk
        · cases h
      · cases h
    · obtain ⟨hj, rfl, rfl⟩ := just_ok h; simp only [vcOp]; exact exMinMax_ok (K := fun v => K v [] []) hj hk
    · obtain ⟨hj, rfl, rfl⟩ := just_ok h; simp only [vcOp]; exact exMinMax_ok (K := fun v => K v [] []) hj hk
    · cases h
  · cases h

end
end Go.Cw

/-
  Cw, part XD: code and calls, run by computation: definitions.
-/
namespace Go.Cw
set_option linter.unusedVariables false

def findI : List Nat → Nat → Nat → Option Nat
  | [], _, _ => none
  | y :: l, x, k => bif Nat.beq y x then some k else findI l x (k + 1)

mutual
/-- Back from other numbers. -/
def unC (rn : List Nat) : AV → Option AV
  | .pv p => some (.pv p)
  | .agg cs => match unL rn cs with
    | some ds => some (.agg ds)
    | none => none
  | .ms id z off len => match findI rn id 0 with
    | some k => some (.ms k z off len)
    | none => none
  | .ptr id z row col => match findI rn id 0 with
    | some k => some (.ptr k z row col)
    | none => none
  | .fn f caps => match unL rn caps with
    | some ds => some (.fn f ds)
    | none => none
  | .tup vs => match unL rn vs with
    | some ds => some (.tup ds)
    | none => none
  | .dead => some .dead
def unL (rn : List Nat) : List AV → Option (List AV)
  | [] => some []
  | x :: l => match unC rn x, unL rn l with
    | some y, some ys => some (y :: ys)
    | _, _ => none
end

def unLL (rn : List Nat) : List (List AV) → Option (List (List AV))
  | [] => some []
  | x :: l => match unL rn x, unLL rn l with
    | some y, some ys => some (y :: ys)
    | _, _ => none

def unRows (rn : List Nat) : Rows → Option Rows
  | .box cs => match unL rn cs with
    | some ds => some (.box ds)
    | none => none
  | .p xs => some (.p xs)
  | .m xs => match unLL rn xs with
    | some ds => some (.m ds)
    | none => none

def unO (rn : List Nat) (o : AObj) : Option AObj :=
  match unRows rn o.rows with
  | some r => some { o with rows := r }
  | none => none

/-- The objects 'ids', all of them there. -/
def unHeap (H : Heap) (rn : List Nat) : List Nat → Option Heap
  | [] => some []
  | i :: l => match H[i]? with
    | some (some o) => match unO rn o, unHeap H rn l with
      | some o', some Hc => some (some o' :: Hc)
      | _, _ => none
    | _ => none

/-- The objects 'ids'; some may have been given up. -/
def unHeapN (H : Heap) (rn : List Nat) : List Nat → Option Heap
  | [] => some []
  | i :: l => match H[i]? with
    | some (some o) => match unO rn o, unHeapN H rn l with
      | some o', some Hc => some (some o' :: Hc)
      | _, _ => none
    | _ => match unHeapN H rn l with
      | some Hc => some (none :: Hc)
      | none => none

mutual
def idsV : AV → List Nat → List Nat
  | .pv _, l => l
  | .agg cs, l => idsL cs l
  | .ms id _ _ _, l => id :: l
  | .ptr id _ _ _, l => id :: l
  | .fn _ caps, l => idsL caps l
  | .tup vs, l => idsL vs l
  | .dead, l => l
def idsL : List AV → List Nat → List Nat
  | [], l => l
  | x :: xs, l => idsV x (idsL xs l)
end

def idsLL : List (List AV) → List Nat → List Nat
  | [], l => l
  | x :: xs, l => idsL x (idsLL xs l)

def idsR : Rows → List Nat → List Nat
  | .box cs, l => idsL cs l
  | .p _, l => l
  | .m xs, l => idsLL xs l

def memN : List Nat → Nat → Bool
  | [], _ => false
  | y :: l, x => bif Nat.beq y x then true else memN l x

/-- What is reached, behind 'acc'. -/
def close (H : Heap) : Nat → List Nat → List Nat → List Nat
  | 0, _, acc => acc
  | _ + 1, [], acc => acc
  | n + 1, i :: l, acc => bif memN acc i then close H n l acc else match H[i]? with
    | some (some o) => close H n (idsR o.rows l) (acc ++ [i])
    | _ => close H n l acc

def rowsOfIds (H : Heap) : List Nat → List Nat → List Nat
  | [], l => l
  | i :: ids, l => match H[i]? with
    | some (some o) => idsR o.rows (rowsOfIds H ids l)
    | _ => rowsOfIds H ids l

/-- What is known of a function. -/
structure FnD where
  n : Nat
  body : Code
  res : List ResultVar

abbrev FTab := List (FuncId × FnD)

def fnOf (P : Program) (f : FuncId) : Option FnD :=
  match P.funcs[f]? with
  | some fn => match fn.body, fn.name == "runtime.NumGoroutine" with
    | some c, false => some ⟨fn.ntmps, c, fn.results.toList⟩
    | _, _ => none
  | none => none

def lookF : FTab → FuncId → Option FnD
  | [], _ => none
  | (k, d) :: l, t => bif Nat.beq k t then some d else lookF l t

def FTabOk (P : Program) (F : FTab) : Prop := ∀ f d, lookF F f = some d → fnOf P f = some d

theorem FTabOk.of_eq {P : Program} : ∀ {F : FTab}, F.map (fun x => fnOf P x.1) = F.map (fun x => some x.2) → FTabOk P F
  | [], _ => fun t d h => by simp [lookF] at h
  | (k, d0) :: l, he => fun t d h => by
    simp only [List.map_cons, List.cons.injEq] at he
    simp only [lookF] at h
    cases hk : Nat.beq k t
    · rw [hk] at h; exact FTabOk.of_eq he.2 t d h
    · rw [hk] at h
      have : k = t := Nat.eq_of_beq_eq_true hk
      subst this
      simp only [cond_true, Option.some.injEq] at h
      rw [← h]; exact he.1

def exPut : Slots → Nat → AV → Slots
  | [], t, v => [(t, v)]
  | (k, x) :: l, t, v => bif Nat.beq k t then (t, v) :: l else (k, x) :: exPut l t v

def exPutO (Γ : Slots) (d : Option Tmp) (v : AV) : Slots :=
  match d with
  | some t => exPut Γ t v
  | none => Γ

abbrev Caller := FuncId → List AV → Heap → Option (AV × Heap)

/-- What a guard says: run, or skip. -/
def exGuard (ops : List Oper) (Γ : Slots) (g : Option (Nat × Bool)) : Option Bool :=
  match g with
  | none => some true
  | some (j, want) => match ops[j]? with
    | some o => match o.dst with
      | some d => match get Γ d with
        | some (.pv (.val (.bool b))) => some (b == want)
        | some (.pv (.val (.tuple _))) => some false
        | _ => none
      | none => none
    | none => none

/-- A call: the objects that the arguments reach are handed over. -/
def exFn (call : Caller) (f : FuncId) (args : List AV) (H : Heap) : Option (AV × Heap × Upd × List Nat) :=
  let ids := close H 100000 (idsL args []) []
  match unL ids args, unHeap H ids ids, allD ids with
  | some as, some Hc, true => match call f as Hc with
    | some (r, Hc') => match Nat.ble ids.length Hc'.length with
      | true => some (renC 0 (ids ++ tabl H.length (Hc'.length - ids.length)) r, taken 0 (ids ++ tabl H.length (Hc'.length - ids.length)) ids Hc' H, updOf 0 ids ids Hc', bif Nat.beq ids.length Hc'.length then ids else [])
      | false => none
    | none => none
  | _, _, _ => none

def callOf (fv : AV) : Option (FuncId × List AV) :=
  match fv with
  | .pv (.fn f caps) => some (f, pvs caps)
  | .fn f caps => some (f, caps)
  | _ => none

def exStep (T : Tab) (call : Caller) (site : Nat) (dst : Option Tmp) (op : Op) (Γ : Slots) (H : Heap) : Option (Slots × Heap) :=
  match op with
  | .call { callee := .value f, args := args, .. } => match ev Γ f, mapO (ev Γ) args.toList with
    | some fv, some vs => match callOf fv with
      | some (fid, caps) => match exFn call fid (vs ++ caps) H with
        | some (r, H', _, _) => some (exPutO Γ dst r, H')
        | none => none
      | none => none
    | _, _ => none
  | op => match exOp T site op (ev Γ) H with
    | some (r, u, _) => some (exPutO Γ dst r, app H u)
    | none => none

def exOps (T : Tab) (n : Nat) (call : Caller) (all : List Oper) : List Oper → Nat → Slots → Heap → Option (Slots × Heap)
  | [], _, Γ, H => some (Γ, H)
  | o :: l, site, Γ, H => match dstOk n o, exGuard all Γ o.guard with
    | true, some true => match exStep T call site o.dst o.op Γ H with
      | some (Γ', H') => exOps T n call all l (bif isAlloc o.op then site + 1 else site) Γ' H'
      | none => none
    | true, some false => exOps T n call all l (bif isAlloc o.op then site + 1 else site) (exPutO Γ o.dst (.pv (.val undef))) H
    | _, _ => none

/-- In a statement that draws: with what is read and changed. A call may make nothing. -/
def exStepD (T : Tab) (call : Caller) (site : Nat) (dst : Option Tmp) (op : Op) (Γ : Slots) (H : Heap) : Option (Slots × Heap × (List Nat × List Nat)) :=
  match op with
  | .call { callee := .value f, args := args, .. } => match ev Γ f, mapO (ev Γ) args.toList with
    | some fv, some vs => match callOf fv with
      | some (fid, caps) =>
        let ids := close H 100000 (idsL (vs ++ caps) []) []
        match unL ids (vs ++ caps), unHeap H ids ids, allD ids with
        | some as, some Hc, true => match call fid as Hc with
          | some (r, Hc') => match Nat.beq Hc'.length ids.length with
            | true => some (exPutO Γ dst (renC 0 ids r), app H (updOf 0 ids ids Hc'), (ids, keysOf (updOf 0 ids ids Hc')))
            | false => none
          | none => none
        | _, _, _ => none
      | none => none
    | _, _ => none
  | op => match exOp T site op (ev Γ) H with
    | some (r, u, rd) => some (exPutO Γ dst r, app H u, (rd, keysOf u))
    | none => none

def exOpsD (T : Tab) (n : Nat) (call : Caller) (all : List Oper) : List Oper → Nat → List (List Nat × List Nat) → Slots → Heap → Option (List (List Nat × List Nat) × Slots × Heap)
  | [], _, fs, Γ, H => some (fs, Γ, H)
  | o :: l, site, fs, Γ, H => match dstOk n o, exGuard all Γ o.guard with
    | true, some true => match exStepD T call site o.dst o.op Γ H with
      | some (Γ', H', f) => exOpsD T n call all l (bif isAlloc o.op then site + 1 else site) (f :: fs) Γ' H'
      | none => none
    | true, some false => exOpsD T n call all l (bif isAlloc o.op then site + 1 else site) (([], []) :: fs) (exPutO Γ o.dst (.pv (.val undef))) H
    | _, _ => none

def exRegion (T : Tab) (n : Nat) (call : Caller) (ops : Array Oper) (draw : Bool) (Γ : Slots) (H : Heap) : Option (Slots × Heap) :=
  let m := allocs ops.toList
  let lo := bif Nat.beq m 0 then 0 else H.length
  let H1 := bif Nat.beq m 0 then H else H ++ nones m
  match draw with
  | false => exOps T n call ops.toList ops.toList lo Γ H1
  | true => match exOpsD T n call ops.toList ops.toList lo [] Γ H1 with
    | some (fs, Γ', H') => match drawOk ops fs.reverse with
      | true => some (Γ', H')
      | false => none
    | none => none

def exCode (T : Tab) (n : Nat) (call : Caller) : Nat → Code → Slots → Heap → Option (Exit × Slots × Heap)
  | 0, _, _, _ => none
  | k + 1, c, Γ, H => match c with
    | .skip => some (.normal, Γ, H)
    | .label _ => some (.normal, Γ, H)
    | .region _ ops draw => match exRegion T n call ops draw Γ H with
      | some (Γ', H') => some (.normal, Γ', H')
      | none => none
    | .seq a b => match exCode T n call k a Γ H with
      | some (.normal, Γ', H') => exCode T n call k b Γ' H'
      | r => r
    | .cond c x y => match ev Γ c with
      | some (.pv (.val (.bool true))) => exCode T n call k x Γ H
      | some (.pv (.val (.bool false))) => exCode T n call k y Γ H
      | _ => none
    | .block id c => match exCode T n call k c Γ H with
      | some (.exit id', Γ', H') => bif Nat.beq id' id then some (.normal, Γ', H') else some (.exit id', Γ', H')
      | r => r
    | .scope c => match exCode T n call k c Γ H with
      | some (.goto _, _, _) => none
      | r => r
    | .loop c => match exCode T n call k c Γ H with
      | some (.normal, Γ', H') => exCode T n call k (.loop c) Γ' H'
      | r => r
    | .exit id => some (.exit id, Γ, H)
    | .ret => some (.ret, Γ, H)
    | _ => none

/-- What a function hands back. -/
def exRet (k : Nat) (r : AV) (H : Heap) : Option (AV × Heap) :=
  let h := tabl 0 k
  let rn := close H 100000 (idsV r (rowsOfIds H h [])) h
  match unC rn r, unHeapN H rn rn, allD rn with
  | some r', some H', true => some (r', H')
  | _, _, _ => none

def exFun (T : Tab) (F : FTab) (fuel : Nat) : Nat → Caller
  | 0, _, _, _ => none
  | d + 1, f, args, H => match lookF F f with
    | some fn => match Nat.ble args.length fn.n with
      | true => match exCode T fn.n (exFun T F fuel d) fuel fn.body (argSlots 0 args) H with
        | some (e, Γ, H') => match e with
          | .normal | .ret => match resOf T Γ H' fn.res with
            | some [r] => exRet H.length r H'
            | some rs => exRet H.length (.tup rs) H'
            | none => none
          | _ => none
        | none => none
      | false => none
    | none => none

end Go.Cw
