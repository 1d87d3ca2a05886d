/-
  Part 7 of the proof (SM2, SK1, SK2, SK3, SD1, RB, D1, D2, Mk1, SE1, SE2, SE3, SE4, MkB, MkC, MkD, Mk2): what later parts use. No conditions.
-/
import Derived.Test.YtihpjcmloecaaaaGreatMQ6
/-
  Symmetry, plain: the canonical plan arises by exchanges.
-/
namespace Go.Proofs.YtihpjcmloecaaaaGreat.Cw
open Go Go.Cw Go.Proofs
set_option linter.unusedVariables false
inductive Reach (m : Model) (p : List Int) : List Int → Prop where
  | refl : Reach m p p
  | step {q : List Int} {a b : Int} (h : Reach m p q) (hab : a ≠ b) (hs : swapP m a b) : Reach m p (imgP m a b q)
theorem Reach.plan {m : Model} {p q : List Int} (h : Reach m p q) (hp : isPlanP m p) : isPlanP m q := by
  induction h with
  | refl => exact hp
  | step h hab hs ih => exact plan_iff.1 (imgP_planned hs.1 (plan_iff.2 ih))
theorem Reach.cost {m : Model} {p q : List Int} (h : Reach m p q) (hg : goodP m) (hp : isPlanP m p) : costV m q = costV m p := by
  induction h with
  | refl => rfl
  | step h hab hs ih => rw [(cost_img hg hs (plan_iff.2 (h.plan hp))).2, ih]
def FE (E : List (Int × Int)) : Int → Int := E.foldl (fun f e => fun r => exch (f r) (f e.1) e.2) id
section
variable {m : Model} {R : List Int} {S : List (List Int)} {p : List Int}
end
end Go.Proofs.YtihpjcmloecaaaaGreat.Cw
/-
  Breaking symmetries, plain: the charges, the costs, and that the broken model is valid.
-/
namespace Go.Proofs.YtihpjcmloecaaaaGreat.Cw
open Go Go.Cw Go.Proofs
set_option linter.unusedVariables false
set_option maxRecDepth 100000
set_option maxHeartbeats 1600000
def firstC (L : List (List Opt)) (s : List Int) (c : Nat) : Prop := (∀ a ∈ L.take c, a.any (inS s) = false) ∧ ∃ l, L[c]? = some l ∧ l.any (inS s) = true
noncomputable def chX (L : List (List Opt)) (R : Int) (S : List (List Int)) (c : Nat) (o : Opt) : List Charge := S.filterMap fun s => if pB (firstC L s c ∧ hitS s o = true) then some ⟨R, forbI⟩ else none
section
variable {m : Model} {L L' : List (List Opt)} {R : Int} {S : List (List Int)} {s : List Int} {c : Nat} {l : List Opt} {o : Opt}
theorem firstC_plc (h : L.map plcO = L'.map plcO) : firstC L s c ↔ firstC L' s c := by
  have key : ∀ {L L' : List (List Opt)}, L.map plcO = L'.map plcO → firstC L s c → firstC L' s c := fun {L L'} h ⟨h1, l, h2, h3⟩ => by
    have at_ : ∀ (j : Nat) (x : List Opt), L'[j]? = some x → ∃ y, L[j]? = some y ∧ y.any (inS s) = x.any (inS s) := fun j x hx => by
      have e := congrArg (·[j]?) h
      simp only [List.getElem?_map, hx, Option.map_some] at e
      cases hy : L[j]? with
      | none => rw [hy] at e; cases e
      | some y => rw [hy] at e; injection e with e; exact ⟨y, rfl, any_plc e⟩
    refine ⟨fun a ha => ?_, ?_⟩
    · obtain ⟨j, hj⟩ := List.getElem?_of_mem ha
      rw [List.getElem?_take] at hj
      split at hj
      · rename_i hjc
        obtain ⟨y, hy, e⟩ := at_ j a hj
        rw [← e]
        exact h1 y (List.mem_of_getElem? (by rw [List.getElem?_take, if_pos hjc]; exact hy))
      · cases hj
    · have e := congrArg (·[c]?) h
      simp only [List.getElem?_map, h2, Option.map_some] at e
      cases hy : L'[c]? with
      | none => rw [hy] at e; cases e
      | some y => rw [hy] at e; injection e with e; exact ⟨y, rfl, by rw [← any_plc e]; exact h3⟩
  exact ⟨key h, key h.symm⟩
theorem brkC_get (hc : L[c]? = some l) : (brkC R s L)[c]? = some (if pB (firstC L s c) then l.map (brkO R s) else l) := by
  induction L generalizing c with
  | nil => simp at hc
  | cons a L ih =>
    simp only [brkC]
    cases c with
    | zero =>
      simp only [List.getElem?_cons_zero, Option.some.injEq] at hc
      subst hc
      cases h : a.any (inS s) with
      | true =>
        rw [pB_t (show firstC (a :: L) s 0 from ⟨fun x hx => by simp at hx, a, rfl, h⟩)]; rfl
      | false =>
        rw [pB_f (show ¬ firstC (a :: L) s 0 from fun ⟨_, x, h2, h3⟩ => by simp at h2; subst h2; rw [h] at h3; cases h3)]; rfl
    | succ c =>
      simp only [List.getElem?_cons_succ] at hc
      cases h : a.any (inS s) with
      | true =>
        rw [pB_f (show ¬ firstC (a :: L) s (c + 1) from fun ⟨h2, _⟩ => by have := h2 a (by simp); rw [h] at this; cases this)]
        simpa using hc
      | false =>
        have e : firstC (a :: L) s (c + 1) ↔ firstC L s c := by
          unfold firstC
          simp only [List.take_succ_cons, List.mem_cons, List.getElem?_cons_succ]
          constructor
          · rintro ⟨h1, h2⟩; exact ⟨fun x hx => h1 x (.inr hx), h2⟩
          · rintro ⟨h1, h2⟩
            refine ⟨fun x hx => ?_, h2⟩
            rcases hx with rfl | hx
            · exact h
            · exact h1 x hx
        have e2 : pB (firstC (a :: L) s (c + 1)) = pB (firstC L s c) := by
          by_cases hf : firstC L s c
          · rw [pB_t hf, pB_t (e.2 hf)]
          · rw [pB_f hf, pB_f fun h => hf (e.1 h)]
        rw [e2]
        have := ih hc
        simpa using this
theorem hitS_place {o' : Opt} (h : o'.place = o.place) : hitS s o' = hitS s o := by unfold hitS inS; rw [h]
theorem chX_place {o' : Opt} (h : o'.place = o.place) : chX L R S c o' = chX L R S c o := by
  unfold chX
  congr 1
  funext s
  rw [hitS_place h]
theorem brkL_get : ∀ {S : List (List Int)} {L' : List (List Opt)} {l : List Opt}, L'.map plcO = L.map plcO → L'[c]? = some l → (brkL R S L')[c]? = some (l.map fun o => ⟨o.place, o.charges ++ chX L R S c o⟩)
  | [], L', l, _, hc => by
    show L'[c]? = _
    rw [hc]
    simp [chX]
  | s :: S, L', l, h, hc => by
    have h2 := brkC_get (R := R) (s := s) hc
    have h3 := brkL_get (S := S) (L' := brkC R s L') (brkC_plc.trans h) h2
    show (brkL R S (brkC R s L'))[c]? = _
    rw [h3]
    congr 1
    have hf : pB (firstC L' s c) = pB (firstC L s c) := by
      by_cases hf : firstC L s c
      · rw [pB_t hf, pB_t ((firstC_plc h).2 hf)]
      · rw [pB_f hf, pB_f fun k => hf ((firstC_plc h).1 k)]
    rw [hf]
    have hx : ∀ o, chX L R (s :: S) c o = (if pB (firstC L s c ∧ hitS s o = true) then [⟨R, forbI⟩] else []) ++ chX L R S c o := fun o => by
      unfold chX
      rw [List.filterMap_cons]
      cases pB (firstC L s c ∧ hitS s o = true) <;> rfl
    by_cases hf : firstC L s c
    · rw [pB_t hf]
      simp only [if_true, List.map_map]
      refine List.map_congr_left fun o _ => ?_
      simp only [Function.comp]
      rw [brkO_place, chX_place brkO_place, hx]
      unfold brkO
      by_cases hh : hitS s o = true
      · rw [if_pos hh, pB_t (show firstC L s c ∧ hitS s o = true from ⟨hf, hh⟩)]
        simp
      · rw [if_neg hh, pB_f (show ¬ (firstC L s c ∧ hitS s o = true) from fun k => hh k.2)]
        simp
    · rw [pB_f hf]
      refine List.map_congr_left fun o _ => ?_
      rw [hx, pB_f (show ¬ (firstC L s c ∧ hitS s o = true) from fun k => hf k.1)]
      simp
theorem chX_mem {x : Charge} (h : x ∈ chX L R S c o) : x = ⟨R, forbI⟩ ∧ ∃ s ∈ S, firstC L s c ∧ hitS s o = true := by
  unfold chX at h
  obtain ⟨s, hs, h2⟩ := List.mem_filterMap.1 h
  by_cases hh : firstC L s c ∧ hitS s o = true
  · rw [pB_t hh] at h2
    injection h2 with h2
    exact ⟨h2.symm, s, hs, hh⟩
  · rw [pB_f hh] at h2; cases h2
theorem hit_in (h : hitS s o = true) : o.place.room ∈ s := by
  unfold hitS inS at h
  rw [Bool.and_eq_true] at h
  exact Classical.byContradiction fun k => by rw [pB_f k] at h; cases h.1
theorem chX_one : ∀ {S : List (List Int)}, S.Pairwise (fun s t => ∀ x ∈ s, x ∉ t) → (chX L R S c o).length ≤ 1
  | [], _ => Nat.zero_le _
  | s :: S, h => by
    obtain ⟨h1, h2⟩ := List.pairwise_cons.1 h
    have ih := chX_one h2
    unfold chX at ih ⊢
    rw [List.filterMap_cons]
    by_cases hh : firstC L s c ∧ hitS s o = true
    · rw [pB_t hh]
      have : chX L R S c o = [] := by
        apply List.eq_nil_iff_forall_not_mem.2
        intro x hx
        obtain ⟨_, t, ht, _, h3⟩ := chX_mem hx
        exact h1 t ht _ (hit_in hh.2) (hit_in h3)
      unfold chX at this
      simp [this]
    · rw [pB_f hh]; simpa using ih
end
end Go.Proofs.YtihpjcmloecaaaaGreat.Cw
/-
  Breaking symmetries, plain: the broken model is valid, and what plans cost in it.
-/
namespace Go.Proofs.YtihpjcmloecaaaaGreat.Cw
open Go Go.Cw Go.Proofs
set_option linter.unusedVariables false
set_option maxRecDepth 100000
set_option maxHeartbeats 1600000
section
variable {m : Model} {p : List Int}
theorem brk_cls {c : Nat} {l : List Opt} (hc : m.classes[c]? = some l) : (brkM m).classes[c]? = some (l.map fun o => ⟨o.place, o.charges ++ chX m.classes m.rules (setsV m) c o⟩) := brkL_get rfl hc
theorem brk_none {c : Nat} (hc : m.classes[c]? = none) : (brkM m).classes[c]? = none := by
  rw [List.getElem?_eq_none_iff] at hc ⊢
  show (brkL m.rules (setsV m) m.classes).length ≤ c
  rw [brkL_len]; exact hc
theorem brk_lenC (c : Nat) : ((brkM m).classes[c]?).map List.length = (m.classes[c]?).map List.length := by
  cases hc : m.classes[c]? with
  | none => rw [brk_none hc]
  | some l => rw [brk_cls hc]; simp
theorem brk_opt {c o : Int} (h : optionP m c o) : optionP (brkM m) c o := by
  obtain ⟨h1, h2, l, h3, h4⟩ := h
  exact ⟨h1, h2, _, brk_cls h3, by rw [List.length_map]; exact h4⟩
theorem brk_rule {n : Int} (h : ruleP m n) : ruleP (brkM m) n := ⟨h.1, by have := h.2; show n < m.rules + 1; omega⟩
theorem brk_valid (hok : modelE m = 0) (h56 : m.rules < 56) : modelE (brkM m) = 0 := by
  have hz := model_sized hok
  have hg := model_good hok
  have hcl : (brkM m).classes.length = m.classes.length := brkL_len
  have hco : ∀ l' ∈ (brkM m).classes, ∃ (c : Nat) (l : List Opt), m.classes[c]? = some l ∧ l' = l.map fun o => ⟨o.place, o.charges ++ chX m.classes m.rules (setsV m) c o⟩ := fun l' hl' => by
    obtain ⟨c, hc⟩ := List.getElem?_of_mem hl'
    have hlt : c < m.classes.length := by rw [← hcl]; exact (List.getElem?_eq_some_iff.1 hc).1
    obtain ⟨l, hl⟩ := getE hlt
    rw [brk_cls hl] at hc
    injection hc with hc
    exact ⟨c, l, hl, hc.symm⟩
  refine mE0 ⟨by rw [hcl]; exact hz.1, fun l' hl' => ?_, hz.2.2.1, hz.2.2.2.1, by show 0 ≤ m.rules + 1; have := hz.2.2.2.2.1; omega, by show m.rules + 1 ≤ 56; omega⟩ ⟨fun l' hl' o' ho' => ?_, fun i hi q hq => ?_, fun c hc => ?_⟩
  · obtain ⟨c, l, hl, rfl⟩ := hco l' hl'
    rw [List.length_map]; exact hz.2.1 l (List.mem_of_getElem? hl)
  · obtain ⟨c, l, hl, rfl⟩ := hco l' hl'
    obtain ⟨o, ho, rfl⟩ := List.mem_map.1 ho'
    have hch := hg.1 l (List.mem_of_getElem? hl) o ho
    intro i hi x hx
    dsimp only at hi hx ⊢
    rcases Nat.lt_or_ge i o.charges.length with h1 | h1
    · rw [List.getElem?_append_left h1] at hx
      obtain ⟨a, b, d⟩ := hch i h1 x hx
      exact ⟨brk_rule a, b, fun k e hk he => d k e hk (by rw [List.getElem?_append_left (by omega)] at he; exact he)⟩
    · rw [List.getElem?_append_right h1] at hx
      have hxm := List.mem_of_getElem? hx
      obtain ⟨rfl, _⟩ := chX_mem hxm
      have hi0 : i = o.charges.length := by
        have h3 := (List.getElem?_eq_some_iff.1 hx).1
        have h4 := chX_one (L := m.classes) (R := m.rules) (c := c) (o := o) (setsV_ok hok).dis
        omega
      refine ⟨⟨hz.2.2.2.2.1, by show m.rules < m.rules + 1; omega⟩, .inr rfl, fun k e hk he => ?_⟩
      rw [List.getElem?_append_left (by omega)] at he
      exact ((hch k (by omega)) e he).1.2
  · obtain ⟨⟨a1, a2, a3, ⟨x, y, hx, hy, hl⟩, a5⟩, a6⟩ := hg.2.1 i hi q hq
    exact ⟨⟨brk_rule a1, a2, a3, ⟨_, _, brk_cls hx, brk_cls hy, by rw [List.length_map, List.length_map]; exact hl⟩, a5⟩, a6⟩
  · obtain ⟨a1, a2, a3, a4, a5⟩ := hg.2.2 c hc
    refine ⟨brk_rule a1, a2, a3, a4, fun i hi x hx => ?_⟩
    obtain ⟨b1, b2, b3, b4⟩ := a5 i hi x hx
    exact ⟨brk_opt b1, b2, b3, b4⟩
theorem brk_laid (hl : Laid m) (hok : modelE m = 0) (h56 : m.rules < 56) : Laid (brkM m) := by
  have hg := model_good (brk_valid hok h56)
  refine ⟨by rw [show (brkM m).classes.length = m.classes.length from brkL_len]; exact hl.cn, hl.pn, fun l h o ho => ?_, hl.ld⟩
  have := charges_len (hg.1 l h o ho) (model_sized (brk_valid hok h56)).2.2.2.2.2
  omega
theorem brk_plan : isPlanP (brkM m) p ↔ isPlanP m p := by
  have hcl : (brkM m).classes.length = m.classes.length := brkL_len
  constructor
  · rintro ⟨h1, h2⟩
    refine ⟨h1.trans hcl, fun j hj o l ho hl => ?_⟩
    have := h2 j hj o _ ho (brk_cls hl)
    rw [List.length_map] at this; exact this
  · rintro ⟨h1, h2⟩
    refine ⟨h1.trans hcl.symm, fun j hj o l' ho hl' => ?_⟩
    obtain ⟨l, hl⟩ := getE (show j < m.classes.length by omega)
    rw [brk_cls hl] at hl'
    injection hl' with hl'
    rw [← hl', List.length_map]
    exact h2 j hj o l ho hl
noncomputable def lostT (m : Model) (p : List Int) (c : Nat) : List Term1 := match m.classes[c]?, p[c]? with
  | some l, some o => if o < 0 then [] else match l[o.toNat]? with
    | some x => (chX m.classes m.rules (setsV m) c x).map fun c => (c.rule, c.cost)
    | none => []
  | _, _ => []
theorem chgT_brk (c : Nat) : chgT (brkM m) p c = chgT m p c ++ lostT m p c := by
  unfold chgT lostT
  cases hc : m.classes[c]? with
  | none => rw [brk_none hc]; rfl
  | some l =>
    rw [brk_cls hc]
    cases ho : p[c]? with
    | none => rfl
    | some o =>
      dsimp only
      split
      · rfl
      · rw [List.getElem?_map]
        cases hx : l[o.toNat]? with
        | none => rfl
        | some x => simp
theorem lostT_mem {c : Nat} {t : Term1} (h : t ∈ lostT m p c) : t = (m.rules, forbI) ∧ ∃ l o x, m.classes[c]? = some l ∧ p[c]? = some o ∧ 0 ≤ o ∧ l[o.toNat]? = some x ∧ ∃ s ∈ setsV m, firstC m.classes s c ∧ hitS s x = true := by
  unfold lostT at h
  split at h
  · rename_i l o hl ho
    split at h
    · cases h
    · split at h
      · rename_i x hx
        obtain ⟨ch, hch, rfl⟩ := List.mem_map.1 h
        obtain ⟨rfl, s, hs, h1, h2⟩ := chX_mem hch
        exact ⟨rfl, l, o, x, hl, ho, by omega, hx, s, hs, h1, h2⟩
      · cases h
  · cases h
theorem pairT_brk {q : Pair} : pairT (brkM m) p q = pairT m p q := by
  have he : ∀ a b, entV (brkM m) q a b = entV m q a b := fun a b => by
    unfold entV
    cases hc : m.classes[q.second.toNat]? with
    | none => rw [brk_none hc]
    | some l => rw [brk_cls hc]; dsimp only; rw [List.length_map]
  unfold pairT
  simp only [he]
noncomputable def lostA (m : Model) (p : List Int) : List Term1 := gr (lostT m p) p.length
theorem sumR_gr {F G : Nat → List Term1} {n r : Nat} : sumR (gr (fun i => F i ++ G i) n) r = sumR (gr F n) r + sumR (gr G n) r := by
  induction n with
  | zero => rfl
  | succ n ih => rw [gr_succ, gr_succ, gr_succ, sumR_app, sumR_app, sumR_app, sumR_app, ih]; omega
theorem terms_brk (r : Nat) : sumR (termsV (brkM m) p) r = sumR (termsV m p) r + sumR (lostA m p) r := by
  have h1 : chgT (brkM m) p = fun c => chgT m p c ++ lostT m p c := funext fun c => chgT_brk c
  have h2 : prsT (brkM m) p (brkM m).pairs.length = prsT m p m.pairs.length := by
    unfold prsT upto
    show (List.range m.pairs.length).filterMap _ = (List.range m.pairs.length).filterMap _
    refine fm_congr fun i _ => ?_
    show (m.pairs[i]?).bind _ = (m.pairs[i]?).bind _
    cases m.pairs[i]? with
    | none => rfl
    | some q => exact pairT_brk
  have h3 : cntsT (brkM m) p (brkM m).counts.length = cntsT m p m.counts.length := rfl
  unfold termsV lostA
  rw [sumR_app, sumR_app, sumR_app, sumR_app, h1, h2, h3, sumR_gr]
  omega
theorem lost_rule {t : Term1} (h : t ∈ lostA m p) : t = (m.rules, forbI) := by
  obtain ⟨c, _, hc⟩ := gr_mem.1 h
  exact (lostT_mem hc).1
theorem sumR_none {T : List Term1} {r : Nat} (h : ∀ t ∈ T, t.1.toNat ≠ r) : sumR T r = 0 := by
  induction T with
  | nil => rfl
  | cons t T ih =>
    rw [sumR_cons, if_neg (h t (List.mem_cons_self ..)), ih fun q hq => h q (List.mem_cons_of_mem _ hq)]; rfl
theorem rules_brk (hok : modelE m = 0) (h56 : m.rules < 56) : rulesV (brkM m) p = rulesV m p ++ [minC (sumR (lostA m p) m.rules.toNat)] := by
  have hg := model_good hok
  have hg' := model_good (brk_valid hok h56)
  have hr0 : 0 ≤ m.rules := (model_sized hok).2.2.2.2.1
  have hl : (rulesV m p).length = m.rules.toNat := run_len
  have hl2 : (rulesV (brkM m) p).length = m.rules.toNat + 1 := by
    have : (rulesV (brkM m) p).length = (m.rules + 1).toNat := run_len
    omega
  apply List.ext_getElem?
  intro r
  rcases Nat.lt_trichotomy r m.rules.toNat with h | h | h
  · rw [List.getElem?_append_left (by omega)]
    have h1 : (rulesV m p)[r]? = some (minC (sumR (termsV m p) r)) := rules_at h (terms_ok hg)
    have h2 : (rulesV (brkM m) p)[r]? = some (minC (sumR (termsV (brkM m) p) r)) := rules_at (by show r < (m.rules + 1).toNat; omega) (terms_ok hg')
    rw [h1, h2, terms_brk, sumR_none (T := lostA m p) fun t ht => by rw [lost_rule ht]; show m.rules.toNat ≠ r; omega, Int.add_zero]
  · subst h
    rw [List.getElem?_append_right (by omega), hl, Nat.sub_self]
    have h2 : (rulesV (brkM m) p)[m.rules.toNat]? = some (minC (sumR (termsV (brkM m) p) m.rules.toNat)) := rules_at (by show m.rules.toNat < (m.rules + 1).toNat; omega) (terms_ok hg')
    rw [h2, terms_brk, sumR_none (T := termsV m p) fun t ht => by have := (terms_ok hg t ht).1; have a1 := this.1; have a2 := this.2; omega, Int.zero_add]
    rfl
  · rw [List.getElem?_eq_none (by omega), List.getElem?_eq_none (by rw [List.length_append]; simp; omega)]
theorem cost_bnd (hok : modelE m = 0) : 0 ≤ costV m p ∧ costV m p ≤ 1099511627776 := by
  have hb : BndC (rulesV m p) := run_bnd (m := m) fun t ht => (terms_ok (model_good hok) t ht).2.1
  unfold costV totalV
  rw [List.take_of_length_le (Nat.le_refl _)]
  have : ∀ (l : List Int) (a : Int), 0 ≤ a → a ≤ 1099511627776 → BndC l → 0 ≤ l.foldl addC a ∧ l.foldl addC a ≤ 1099511627776 := fun l => by
    induction l with
    | nil => intro a h1 h2 _; exact ⟨h1, h2⟩
    | cons x l ih =>
      intro a h1 h2 h
      have := addC_bnd h1 (h x (List.mem_cons_self ..)).1
      exact ih _ this.1 this.2 fun n hn => h n (List.mem_cons_of_mem _ hn)
  exact this _ 0 (by decide) (by decide) hb
theorem cost_brk (hok : modelE m = 0) (h56 : m.rules < 56) : costV (brkM m) p = addC (costV m p) (minC (sumR (lostA m p) m.rules.toNat)) := by
  unfold costV totalV
  rw [rules_brk hok h56, List.take_of_length_le (Nat.le_refl _), List.take_of_length_le (Nat.le_refl _), List.foldl_append]
  rfl
theorem brk_or (hok : modelE m = 0) (h56 : m.rules < 56) : costV (brkM m) p = costV m p ∨ costV (brkM m) p = 1099511627776 := by
  have hb := cost_bnd (p := p) hok
  rw [cost_brk hok h56]
  rcases hl : lostA m p with _ | ⟨t, T⟩
  · left
    rw [sumR_nil]
    unfold addC minC; (repeat' split) <;> omega
  · right
    have h1 := lost_rule (m := m) (p := p) (t := t) (by rw [hl]; simp)
    have h2 := sumR_mem (T := t :: T) (t := t) (fun q hq => by rw [lost_rule (m := m) (p := p) (t := q) (by rw [hl]; exact hq)]; show (0 : Int) ≤ forbI; decide) (by simp)
    rw [h1] at h2
    have h3 : (1099511627776 : Int) ≤ sumR ((m.rules, forbI) :: T) m.rules.toNat := h2
    rw [h1]
    unfold addC minC; (repeat' split) <;> omega
theorem brk_same (hok : modelE m = 0) (h56 : m.rules < 56) (hn : lostA m p = []) : costV (brkM m) p = costV m p := by
  have hb := cost_bnd (p := p) hok
  rw [cost_brk hok h56, hn, sumR_nil]
  unfold addC minC; (repeat' split) <;> omega
end
end Go.Proofs.YtihpjcmloecaaaaGreat.Cw
/-
  Breaking symmetries, plain: some plan that costs as_ much loses nothing.
-/
namespace Go.Proofs.YtihpjcmloecaaaaGreat.Cw
open Go Go.Cw Go.Proofs
set_option linter.unusedVariables false
set_option maxRecDepth 100000
set_option maxHeartbeats 1600000
section
variable {m : Model} {p q : List Int} {a b : Int}
theorem first_one {L : List (List Opt)} {s : List Int} {c d : Nat} (h1 : firstC L s c) (h2 : firstC L s d) : c = d := by
  have key : ∀ {c d : Nat}, firstC L s c → firstC L s d → ¬ c < d := fun {c d} ⟨_, l, hl, hu⟩ ⟨h, _⟩ hcd => by
    have := h l (List.mem_of_getElem? (by rw [List.getElem?_take, if_pos hcd]; exact hl))
    rw [hu] at this; cases this
  have := key h1 h2
  have := key h2 h1
  omega
theorem imgP_room (hs : swapP m a b) {c : Nat} {l : List Opt} {o' : Int} {x' : Opt} (hl : m.classes[c]? = some l) (ho' : (imgP m a b q)[c]? = some o') (h0 : 0 ≤ o') (hx' : l[o'.toNat]? = some x') (hq : isPlanP m q) :
    ∃ (o : Int) (x : Opt), q[c]? = some o ∧ 0 ≤ o ∧ l[o.toNat]? = some x ∧ x'.place.room = exch x.place.room a b := by
  have hc : c < q.length := by
    have := (List.getElem?_eq_some_iff.1 ho').1
    rwa [imgP_len] at this
  obtain ⟨o, ho⟩ := getE hc
  rw [imgP_at ho hl] at ho'
  injection ho' with ho'
  by_cases hn : o < 0
  · rw [if_pos hn] at ho'; omega
  · rw [if_neg hn] at ho'
    have hol := (hq.2 c hc o l ho hl).2
    obtain ⟨x, hx⟩ := getE (l := l) (i := o.toNat) (by omega)
    refine ⟨o, x, ho, by omega, hx, ?_⟩
    have h1 := (ok_imN (hs.1 l (List.mem_of_getElem? hl) o.toNat (by omega))).1
    unfold swapO at h1
    rw [hx] at h1
    subst ho'
    rw [Int.toNat_natCast] at hx'
    exact img_room h1 hx'
def NoHit (m : Model) (p : List Int) (s : List Int) : Prop := ∀ (c : Nat) (l : List Opt) (o : Int) (x : Opt), firstC m.classes s c → m.classes[c]? = some l → p[c]? = some o → 0 ≤ o → l[o.toNat]? = some x → ¬ hitS s x = true
theorem hit_ne {s : List Int} {x : Opt} {x0 : Int} {t : List Int} (hs : s = x0 :: t) (h : hitS s x = true) : x.place.room ≠ x0 := by
  subst hs
  unfold hitS at h
  rw [Bool.and_eq_true] at h
  exact Classical.byContradiction fun k => by
    rw [pB_f (show ¬ x.place.room ≠ (x0 :: t).headD 0 from fun k2 => k k2)] at h
    cases h.2
theorem hit_room {s : List Int} {x y : Opt} (h : x.place.room = y.place.room) : hitS s x = hitS s y := by unfold hitS inS; rw [h]
theorem keep_step (hok : modelE m = 0) {T : List (List Int)} {s : List Int} (hs : s ∈ setsV m) (hT : ∀ t ∈ T, t ∈ setsV m) (hq : isPlanP m q) (hr : Reach m p q) (hn : ∀ t ∈ T, NoHit m q t) : ∃ q', isPlanP m q' ∧ Reach m p q' ∧ ∀ t ∈ s :: T, NoHit m q' t := by
  have ok := setsV_ok hok
  by_cases h : NoHit m q s
  · exact ⟨q, hq, hr, fun t ht => by
      rcases List.mem_cons.1 ht with rfl | ht
      · exact h
      · exact hn t ht⟩
  · obtain ⟨c, l, o, x, h1, h2, h3, h4, h5, h6⟩ : ∃ (c : Nat) (l : List Opt) (o : Int) (x : Opt), firstC m.classes s c ∧ m.classes[c]? = some l ∧ q[c]? = some o ∧ 0 ≤ o ∧ l[o.toNat]? = some x ∧ hitS s x = true := by
      refine Classical.byContradiction fun k => h fun c l o x g1 g2 g3 g4 g5 g6 => k ⟨c, l, o, x, g1, g2, g3, g4, g5, g6⟩
    obtain ⟨x0, t0, hs0⟩ := setsV_ne s hs
    have hin := hit_in h6
    have hne := hit_ne hs0 h6
    have hx0 : x0 ∈ s := by rw [hs0]; simp
    have hsw := ok.sw s hs _ hin _ hx0 hne
    have hq' : isPlanP m (imgP m x.place.room x0 q) := plan_iff.1 (imgP_planned hsw.1 (plan_iff.2 hq))
    have self : NoHit m (imgP m x.place.room x0 q) s := fun d l' o' x' g1 g2 g3 g4 g5 g6 => by
      obtain rfl := first_one h1 g1
      rw [h2] at g2; cases g2
      obtain ⟨o2, x2, e1, e2, e3, e4⟩ := imgP_room hsw h2 g3 g4 g5 hq
      rw [h3] at e1; cases e1
      rw [h5] at e3; cases e3
      refine hit_ne hs0 g6 ?_
      rw [e4]
      exact exch_a rfl
    refine ⟨_, hq', hr.step hne hsw, fun t ht => ?_⟩
    rcases List.mem_cons.1 ht with rfl | ht
    · exact self
    by_cases hts : t = s
    · subst hts; exact self
    intro d l' o' x' g1 g2 g3 g4 g5 g6
    obtain ⟨o2, x2, e1, e2, e3, e4⟩ := imgP_room hsw g2 g3 g4 g5 hq
    have g7 := hit_in g6
    rw [e4] at g7
    have hns : ∀ r, r ∈ s → r ∉ t := fun r hr1 hr2 => hts (ok.same (hT t ht) hs hr2 hr1)
    by_cases k1 : x2.place.room = x.place.room
    · rw [exch_a k1] at g7
      exact hns x0 hx0 g7
    by_cases k2 : x2.place.room = x0
    · rw [k2] at g7
      unfold exch at g7
      rw [if_neg fun h => k1 (k2.trans h), if_pos rfl] at g7
      exact hns _ hin g7
    · have k3 : x'.place.room = x2.place.room := by rw [e4]; exact exch_n k1 k2
      rw [hit_room k3] at g6
      exact hn t ht d l' o2 x2 g1 g2 e1 e2 e3 g6
theorem keep_some (hok : modelE m = 0) (hp : isPlanP m p) : ∀ T : List (List Int), (∀ t ∈ T, t ∈ setsV m) → ∃ q, isPlanP m q ∧ Reach m p q ∧ ∀ t ∈ T, NoHit m q t
  | [], _ => ⟨p, hp, .refl, fun t ht => by cases ht⟩
  | s :: T, h => by
    obtain ⟨q, h1, h2, h3⟩ := keep_some hok hp T fun t ht => h t (List.mem_cons_of_mem _ ht)
    exact keep_step hok (h s (List.mem_cons_self ..)) (fun t ht => h t (List.mem_cons_of_mem _ ht)) h1 h2 h3
def fullP (p : List Int) : Prop := ∀ o ∈ p, 0 ≤ o
theorem reach_full (hp : fullP p) (hpl : isPlanP m p) (h : Reach m p q) : fullP q := by
  induction h with
  | refl => exact hp
  | step h hab hs ih =>
    rename_i q' a b
    intro o ho
    obtain ⟨c, hc⟩ := List.getElem?_of_mem ho
    have hcl := (List.getElem?_eq_some_iff.1 hc).1
    rw [imgP_len] at hcl
    obtain ⟨o', ho'⟩ := getE hcl
    have hq' := h.plan hpl
    obtain ⟨l, hl⟩ := getE (show c < m.classes.length by have := hq'.1; omega)
    rw [imgP_at ho' hl] at hc
    injection hc with hc
    have := ih o' (List.mem_of_getElem? ho')
    rw [if_neg (by omega)] at hc
    omega
theorem keep_plan (hok : modelE m = 0) (h56 : m.rules < 56) (hp : isPlanP m p) (hf : fullP p) : ∃ q, isPlanP m q ∧ fullP q ∧ costV (brkM m) q = costV m p := by
  obtain ⟨q, h1, h2, h3⟩ := keep_some hok hp (setsV m) fun t ht => ht
  refine ⟨q, h1, reach_full hf hp h2, ?_⟩
  rw [brk_same hok h56, h2.cost (model_good hok) hp]
  apply List.eq_nil_iff_forall_not_mem.2
  intro t ht
  obtain ⟨c, _, hc⟩ := gr_mem.1 ht
  obtain ⟨_, l, o, x, g1, g2, g3, g4, s, hs, g5, g6⟩ := lostT_mem hc
  exact h3 s hs c l o x g5 g1 g2 g3 g4 g6
end
end Go.Proofs.YtihpjcmloecaaaaGreat.Cw
/-
  Symmetry: what a plan costs (program's side): sums, excess, the bill.
-/
namespace Go.Proofs.YtihpjcmloecaaaaGreat.Cw
open Go Go.Cw Go.Proofs
set_option linter.unusedVariables false
set_option maxRecDepth 100000
set_option maxHeartbeats 8000000
theorem eqv_mulC {a b : Int} {K : Int → Prop} (ha : 0 ≤ a ∧ a ≤ 1000000) (hb : 0 ≤ b ∧ b ≤ 1099511627776) (h : 0 ≤ a * b → K (a * b)) : eqv (IntKind.i64.wrap (a * b)) K := by
  have h1 : a * b ≤ 1000000 * 1099511627776 := Int.mul_le_mul ha.2 hb.2 hb.1 (by decide)
  have h0 : 0 ≤ a * b := Int.mul_nonneg ha.1 hb.1
  exact eqv_wrap (by omega) (by omega) (h h0)
def billO (n : Nat) : Option AObj := some ⟨139, 1, false, .box [.ms 1 1 0 n]⟩
end Go.Proofs.YtihpjcmloecaaaaGreat.Cw
/-
  Boxes one cell of which is a slice that grows.
-/
namespace Go.Proofs.YtihpjcmloecaaaaGreat.Cw
open Go.Cw Go.Proofs
theorem ren_bx0 {d : Nat} {rn : List Nat} {id z : Nat} {rows : List (List PV)} {cs : List AV} : renL d rn (slP id z rows :: cs) = slP (rn.getD id d) z rows :: renL d rn cs := by simp [renL, ren_sl]
theorem ren_bx1 {d : Nat} {rn : List Nat} {id z : Nat} {rows : List (List PV)} {a b c : PV} : renL d rn [.pv a, slP id z rows, .pv b, .pv c] = [.pv a, slP (rn.getD id d) z rows, .pv b, .pv c] := by simp [renL, ren_sl, renC]
theorem ren_bx3 {d : Nat} {rn : List Nat} {id z : Nat} {rows : List (List PV)} {a b c : PV} : renL d rn [.pv a, .pv b, .pv c, slP id z rows] = [.pv a, .pv b, .pv c, slP (rn.getD id d) z rows] := by simp [renL, ren_sl, renC]
end Go.Proofs.YtihpjcmloecaaaaGreat.Cw
/-
  Contracts: dice.
-/
namespace Go.Proofs.YtihpjcmloecaaaaGreat.Cw
open Go.Cw Go.Proofs
set_option linter.unusedVariables false
set_option maxRecDepth 100000
def modI (a m : Int) : Int := if m < 1 then 0 else a % m
theorem tmod_mod {a m : Int} (h : 1 ≤ m) : (if a.tmod m < 0 then a.tmod m + m else a.tmod m) = a % m := by
  rw [Int.tmod_eq_emod]
  have h1 := Int.emod_nonneg a (show m ≠ 0 by omega)
  have h2 := Int.emod_lt_of_pos a (show 0 < m by omega)
  split
  · simp only [Int.ofNat_zero, Int.sub_zero]; rw [if_neg (by omega)]
  · rename_i h3
    have : (m.natAbs : Int) = m := by omega
    rw [this, if_pos (by omega)]; omega
theorem c_mod (a m : Int) (hm : m ≤ 9223372036854775807) : PCall Tryz.prog 67 [vint .i64 a, vint .i64 m] (fun r => r = vint .i64 (modI a m)) := by
  refine acall_of tok mixed 16 rfl (fn := Tryz.f67) (c := Tryz.f67.body.getD .skip) (by kernel_rfl) (by kernel_rfl) (by kernel_rfl) rfl 0 rfl ?_
  repeat' (first | refine o1 ?_ | refine o2 ?_ | refine k1 ?_ | refine k2 ?_ | refine k3 ?_ | refine k6 ?_ | refine k7 ?_ | refine And.intro ?_ ?_ | (intro h; first | exact Bool.noConfusion h | exact nz _ h | exact nl h | (simp at h; done) | (simp at h; first | (exfalso; omega) | skip) | skip) | (change retOk _ _ _ _; refine ret_pure rfl trivial ?_) | fail)
  case' refine_2.refine_2 =>
    have ht := tmod_mod (a := a) (m := m) (by omega)
    have h1 := Int.emod_nonneg a (show m ≠ 0 by omega)
    have h2 := Int.emod_lt_of_pos a (show 0 < m by omega)
    refine eqv_rfl ?_
    generalize a.tmod m = q at *
    have hq : q < 0 → q + m = a % m := fun h => by rw [if_pos h] at ht; exact ht
    repeat' (first | refine o1 ?_ | refine o2 ?_ | refine k1 ?_ | refine k2 ?_ | refine k3 ?_ | refine k6 ?_ | refine k7 ?_ | refine And.intro ?_ ?_ | (intro h; first | exact Bool.noConfusion h | exact nz _ h | exact nl h | (simp at h; done) | (simp at h; first | (exfalso; omega) | skip) | skip) | (change retOk _ _ _ _; refine ret_pure rfl trivial ?_) | refine eqv_wrap (by omega) (by omega) ?_ | fail)
  all_goals first
    | (exfalso; omega)
    | (refine congrArg (vint .i64) ?_; unfold modI; rw [if_neg (by omega)]; exact hq (by assumption))
    | (refine congrArg (vint .i64) ?_; unfold modI; rw [if_neg (by omega), ← ht, if_neg (by omega)])
    | (refine congrArg (vint .i64) ?_; unfold modI; rw [if_pos (by omega)])
def dice (t : List Int) (k : Nat) : Option AObj := some ⟨67, 2, false, .box [.pv (encInts t), vint .i64 k]⟩
def nextV (t : List Int) (k : Nat) (n : Int) : Int := match t[k]? with
  | some x => modI x n
  | none => 0
def nextK (t : List Int) (k : Nat) : Nat := if k < t.length then k + 1 else k
theorem nextV_range (t : List Int) (k : Nat) {n : Int} (h : 1 ≤ n) : 0 ≤ nextV t k n ∧ nextV t k n < n := by
  unfold nextV
  split
  · unfold modI; rw [if_neg (by omega)]; exact ⟨Int.emod_nonneg _ (by omega), Int.emod_lt_of_pos _ (by omega)⟩
  · omega
theorem c_next (t : List Int) (k : Nat) (n : Int) (ht : t.length ≤ 400) (hk : k ≤ t.length) (hn : n ≤ 9223372036854775807) :
    ACall Tryz.prog 31 [.ptr 0 2 0 0, vint .i64 n] [dice t k] (fun r H' => r = vint .i64 (nextV t k n) ∧ H' = [dice t (nextK t k)]) := by
  refine acall_of tok mixed 35 rfl (fn := Tryz.f31) (c := Tryz.f31.body.getD .skip) (by kernel_rfl) (by kernel_rfl) (by kernel_rfl) rfl 1 rfl ?_
  repeat' (first | refine o1 ?_ | refine o2 ?_ | refine k1 ?_ | refine k2 ?_ | refine k3 ?_ | refine k6 ?_ | refine k7 ?_ | refine And.intro ?_ ?_ | refine o3 ?_ | refine o4 ?_ | (intro h; first | exact Bool.noConfusion h | exact nz _ h | exact nl h | (simp at h; done) | (simp at h; first | (exfalso; omega) | skip) | skip) | exact (by kernel_rfl : drawOk _ _ = true) | refine eqv_len_map ?_ | refine eqv_wrap (by omega) (by omega) ?_ | fail)
  case' refine_1 =>
    refine ret_obj [0] [dice t (nextK t k)] rfl rfl ⟨(by rw [nextK, if_neg (by omega)]; rfl), trivial⟩ (r' := vint .i64 0) rfl ⟨?_, rfl⟩
    simp [nextV, List.getElem?_eq_none h]
  case' refine_2 =>
    obtain ⟨x, hx⟩ := getE h
    repeat' (first | refine o3 ?_ | refine idx_sl (at_map (by assumption)) (by omega) ?_ | fail)
    change vcFunD _ _ _ _ _
    refine callD_eq rfl (by repeat' (first | trivial)) ALeL.refl (c_mod x n hn) rfl ?_
    repeat' (first | refine k7 ?_ | refine And.intro ?_ ?_ | refine o3 ?_ | refine o4 ?_ | exact (by kernel_rfl : drawOk _ _ = true) | fail)
    refine ret_obj [0] [dice t (nextK t k)] rfl rfl ⟨(by rw [nextK, if_pos h]; rfl), trivial⟩ (r' := vint .i64 (modI x n)) rfl ⟨?_, rfl⟩
    simp [nextV, hx]
theorem c_one (t : List Int) (k : Nat) (n : Int) (ht : t.length ≤ 400) (hk : k ≤ t.length) (hn : n ≤ 9223372036854775807) (hn1 : 1 ≤ n) :
    ACall Tryz.prog 58 [.ptr 0 2 0 0, vint .i64 n] [dice t k] (fun r H' => r = vbool (decide (nextV t k n = n - 1)) ∧ H' = [dice t (nextK t k)]) := by
  refine acall_of tok mixed 11 rfl (fn := Tryz.f58) (c := Tryz.f58.body.getD .skip) (by kernel_rfl) (by kernel_rfl) (by kernel_rfl) rfl 1 rfl ?_
  repeat' (first | refine o1 ?_ | refine o2 ?_ | refine k1 ?_ | refine k2 ?_ | fail)
  change vcFun _ _ _ _ _
  refine call_obj [0] [dice t k] [.ptr 0 2 0 0, vint .i64 n] rfl ⟨rfl, trivial⟩ rfl (c_next t k n ht hk hn) ?_
  rintro r H' ⟨rfl, rfl⟩
  repeat' (first | refine o1 ?_ | refine o2 ?_ | refine k7 ?_ | refine And.intro ?_ ?_ | exact Nat.le_of_ble_eq_true rfl | refine eqv_wrap (by omega) (by omega) ?_ | fail)
  refine ret_obj [0] [dice t (nextK t k)] rfl rfl ⟨rfl, trivial⟩ (r' := vbool (decide (nextV t k n = n - 1))) rfl ⟨rfl, rfl⟩
def Nxt (t : List Int) (k : Nat) (n v : Int) (k2 : Nat) : Prop := ACall Tryz.prog 31 [.ptr 0 2 0 0, vint .i64 n] [dice t k] (fun r H' => r = vint .i64 v ∧ H' = [dice t k2])
theorem nextK_le {t : List Int} {k : Nat} (h : k ≤ t.length) : nextK t k ≤ t.length := by unfold nextK; split <;> omega
theorem next_ex (t : List Int) (k : Nat) (n : Int) (ht : t.length ≤ 400) (hk : k ≤ t.length) (hn : n ≤ 9223372036854775807) (h1 : 1 ≤ n) :
    ∃ v k2, 0 ≤ v ∧ v < n ∧ k2 ≤ t.length ∧ Nxt t k n v k2 :=
  ⟨_, _, (nextV_range t k h1).1, (nextV_range t k h1).2, nextK_le hk, c_next t k n ht hk hn⟩
def One (t : List Int) (k : Nat) (n : Int) (b : Bool) (k2 : Nat) : Prop := ACall Tryz.prog 58 [.ptr 0 2 0 0, vint .i64 n] [dice t k] (fun r H' => r = vbool b ∧ H' = [dice t k2])
theorem one_ex (t : List Int) (k : Nat) (n : Int) (ht : t.length ≤ 400) (hk : k ≤ t.length) (hn : n ≤ 9223372036854775807) (h1 : 1 ≤ n) :
    ∃ b k2, k2 ≤ t.length ∧ One t k n b k2 :=
  ⟨_, _, nextK_le hk, c_one t k n ht hk hn h1⟩
theorem c_roll (t : List Int) : ACall Tryz.prog 12 [.pv (encInts t)] [] (fun r H' => r = .ptr 0 2 0 0 ∧ H' = [dice t 0]) := by
  refine acall_of tok mixed 6 rfl (fn := Tryz.f12) (c := Tryz.f12.body.getD .skip) (by kernel_rfl) (by kernel_rfl) (by kernel_rfl) rfl 0 rfl ?_
  repeat' (first | refine o1 ?_ | refine o2 ?_ | refine k1 ?_ | refine k2 ?_ | refine k7 ?_ | fail)
  refine ret_obj [0] [dice t 0] rfl rfl ⟨rfl, trivial⟩ (r' := .ptr 0 2 0 0) rfl ⟨rfl, rfl⟩
theorem c_light (t : List Int) : PCall Tryz.prog 9 [.pv (encInts t)] (fun r => r = vbool (decide (t.length ≤ 400))) := by
  refine acall_of tok mixed 6 rfl (fn := Tryz.f9) (c := Tryz.f9.body.getD .skip) (by kernel_rfl) (by kernel_rfl) (by kernel_rfl) rfl 0 rfl ?_
  repeat' (first | refine o1 ?_ | refine o2 ?_ | refine k1 ?_ | refine k2 ?_ | refine k7 ?_ | (change retOk _ _ _ _; refine ret_pure rfl trivial ?_) | refine eqv_len_map ?_ | fail)
  refine congrArg vbool ?_
  simp; omega
end Go.Proofs.YtihpjcmloecaaaaGreat.Cw
/-
  Dice: calls in walks.
-/
namespace Go.Proofs.YtihpjcmloecaaaaGreat.Cw
open Go.Cw Go.Proofs
set_option linter.unusedVariables false
set_option maxRecDepth 100000
section
variable {t : List Int} {k : Nat} {n : Int} {H : Heap} (i : Nat)
theorem call_next {K : AV → Heap → Prop} (hi : H[i]? = some (dice t k)) (ht : t.length ≤ 400) (hk : k ≤ t.length) (h1 : 1 ≤ n) (hn : n ≤ 9223372036854775807)
    (hK : ∀ v k2, 0 ≤ v → v < n → k2 ≤ t.length → K (vint .i64 v) (H.set i (dice t k2))) : vcFun Tryz.prog 31 [.ptr i 2 0 0, vint .i64 n] H K := by
  obtain ⟨v, k2, a, b, c, hn⟩ := next_ex t k n ht hk hn h1
  refine call_one (i := i) hi (fun _ _ => rfl) [.ptr 0 2 0 0, vint .i64 n] rfl hn ?_
  rintro r H' ⟨rfl, rfl⟩
  exact ⟨_, rfl, fun _ _ => rfl, fun _ _ => rfl, hK v k2 a b c⟩
theorem call_one2 {K : AV → Heap → Prop} (hi : H[i]? = some (dice t k)) (ht : t.length ≤ 400) (hk : k ≤ t.length) (h1 : 1 ≤ n) (hn : n ≤ 9223372036854775807)
    (hK : ∀ b k2, k2 ≤ t.length → K (vbool b) (H.set i (dice t k2))) : vcFun Tryz.prog 58 [.ptr i 2 0 0, vint .i64 n] H K := by
  obtain ⟨v, k2, c, hn⟩ := one_ex t k n ht hk hn h1
  refine call_one (i := i) hi (fun _ _ => rfl) [.ptr 0 2 0 0, vint .i64 n] rfl hn ?_
  rintro r H' ⟨rfl, rfl⟩
  exact ⟨_, rfl, fun _ _ => rfl, fun _ _ => rfl, hK v k2 c⟩
theorem callD_one2 {K : AV → Upd → List Nat → Prop} (hi : H[i]? = some (dice t k)) (ht : t.length ≤ 400) (hk : k ≤ t.length) (h1 : 1 ≤ n) (hn : n ≤ 9223372036854775807)
    (hK : ∀ b k2, k2 ≤ t.length → K (vbool b) [(i, dice t k2)] [i]) : vcFunD Tryz.prog 58 [.ptr i 2 0 0, vint .i64 n] H K := by
  obtain ⟨v, k2, c, hn⟩ := one_ex t k n ht hk hn h1
  exact callD_one (i := i) hi (fun _ _ => rfl) [.ptr 0 2 0 0, vint .i64 n] rfl hn (fun _ _ => rfl) (fun _ _ => rfl) (hK v k2 c)
end
end Go.Proofs.YtihpjcmloecaaaaGreat.Cw
/-
  Made models: costs, charges, plain laws.
-/
namespace Go.Proofs.YtihpjcmloecaaaaGreat.Cw
open Go.Cw Go.Proofs
set_option linter.unusedVariables false
set_option maxRecDepth 100000
set_option maxHeartbeats 1600000
def Cost (t : List Int) (k : Nat) (n : Int) (k2 : Nat) : Prop := ACall Tryz.prog 72 [.ptr 0 2 0 0] [dice t k] (fun r H' => r = vint .i64 n ∧ H' = [dice t k2])
def mr (r : Int) : Model := ⟨[], [], [], r⟩
structure ChQ (r : Int) (u : Nat) (l : List Charge) : Prop where
  at_ : ∀ i, i < l.length → chargeAt (mr r) l i
  lt : ∀ c ∈ l, c.rule < u
  len : l.length ≤ u
theorem ChQ.nil {r : Int} : ChQ r 0 [] := ⟨fun i h => absurd h (Nat.not_lt_zero _), fun c h => absurd h (List.not_mem_nil), Nat.le_refl _⟩
theorem ChQ.app {r n : Int} {u : Nat} {l : List Charge} (h : ChQ r u l) (hu : (u : Int) < r) (hn : priceP n) : ChQ r (u + 1) (l ++ [⟨u, n⟩]) := by
  refine ⟨fun i hi c hc => ?_, fun c hc => ?_, by have := h.len; simp; omega⟩
  · simp only [List.length_append, List.length_cons, List.length_nil] at hi
    rcases Nat.lt_or_ge i l.length with h1 | h1
    · rw [List.getElem?_append_left h1] at hc
      obtain ⟨a, b, d⟩ := h.at_ i h1 c hc
      exact ⟨a, b, fun k e hk he => d k e hk (by rw [List.getElem?_append_left (by omega)] at he; exact he)⟩
    · obtain rfl : i = l.length := by omega
      rw [List.getElem?_append_right (Nat.le_refl _)] at hc
      simp at hc; subst hc
      refine ⟨⟨by show (0 : Int) ≤ u; omega, hu⟩, hn, fun k e hk he => ?_⟩
      rw [List.getElem?_append_left (by omega)] at he
      exact h.lt e (List.mem_of_getElem? he)
  · rcases List.mem_append.1 hc with h1 | h1
    · have := h.lt c h1; omega
    · simp at h1; subst h1; show (u : Int) < (u + 1 : Nat); omega
def OptQ (r : Int) (o : Opt) : Prop := chargesP (mr r) o ∧ o.charges.length ≤ 4
def ClsQ (r : Int) (l : List Opt) : Prop := 1 ≤ l.length ∧ l.length ≤ 4 ∧ ∀ o ∈ l, OptQ r o
def zeroM : Option AObj := some ⟨29, 4, false, .box [nilA, nilA, nilA, vint .i64 0]⟩
def mb (c p n : AV) (r : Int) : Option AObj := some ⟨29, 4, false, .box [c, p, n, vint .i64 r]⟩
def ob5 (w d s l rm : Int) (c : AV) : Option AObj := some ⟨62, 6, false, .box [vint .i64 w, vint .i64 d, vint .i64 s, vint .i64 l, vint .i64 rm, c]⟩
theorem all_app {α : Type} {p : α → Prop} {l : List α} {x : α} (h : ∀ y ∈ l, p y) (hx : p x) : ∀ y ∈ l ++ [x], p y := fun y hy => by
  rcases List.mem_append.1 hy with h1 | h1
  · exact h y h1
  · simp at h1; subst h1; exact hx
def PB (l : List Pair) (u i k : Nat) : Prop := ∀ p ∈ l, p.rule < u ∨ (p.rule = u ∧ (p.first < i ∨ (p.first = i ∧ p.second < k)))
structure PrQ (cls : List (List Opt)) (r : Int) (l : List Pair) (u i k : Nat) : Prop where
  at_ : ∀ j, j < l.length → pairAt ⟨cls, l, [], r⟩ j
  lt : PB l u i k
  len : l.length ≤ u * 25 + i * 5 + k
section
variable {cls : List (List Opt)} {r : Int} {l : List Pair} {u i k : Nat}
theorem PrQ.toK (h : PrQ cls r l u i 0) : PrQ cls r l u i (i + 1) := ⟨h.at_, fun p hp => by have := h.lt p hp; omega, by have := h.len; omega⟩
theorem PrQ.toI (h : PrQ cls r l u i k) (hk : k ≤ 5) : PrQ cls r l u (i + 1) 0 := ⟨h.at_, fun p hp => by have := h.lt p hp; omega, by have := h.len; omega⟩
theorem PrQ.app (h : PrQ cls r l u i k) {t : List Int} (hp : pairP ⟨cls, [], [], r⟩ ⟨i, k, u, t⟩) : PrQ cls r (l ++ [⟨i, k, u, t⟩]) u i (k + 1) := by
  refine ⟨fun j hj p hjp => ?_, fun p hm => ?_, by have := h.len; simp; omega⟩
  · dsimp only at hjp
    simp only [List.length_append, List.length_cons, List.length_nil] at hj
    rcases Nat.lt_or_ge j l.length with h1 | h1
    · rw [List.getElem?_append_left h1] at hjp
      obtain ⟨a, d⟩ := h.at_ j h1 p hjp
      exact ⟨a, fun k e hk he => d k e hk (by dsimp only at he ⊢; rw [List.getElem?_append_left (by omega)] at he; exact he)⟩
    · obtain rfl : j = l.length := by omega
      rw [List.getElem?_append_right (Nat.le_refl _)] at hjp
      simp at hjp; subst hjp
      refine ⟨hp, fun k' e hk he => ?_⟩
      dsimp only at he
      rw [List.getElem?_append_left (by omega)] at he
      have := h.lt e (List.mem_of_getElem? he)
      unfold pairLt; dsimp only; omega
  · rcases List.mem_append.1 hm with h1 | h1
    · have := h.lt p h1; omega
    · simp at h1; subst h1; dsimp only; omega
end
def pb4 (a b c : Int) (t : AV) : Option AObj := some ⟨72, 4, false, .box [vint .i64 a, vint .i64 b, vint .i64 c, t]⟩
theorem pair_made {cls : List (List Opt)} {r : Int} {u i k : Nat} {a b : List Opt} {t : List Int} (ha : cls[i]? = some a) (hb : cls[k]? = some b) (hik : i < k) (hu : (u : Int) < r) (ht : t.length = a.length * b.length) (h : ∀ x ∈ t, x = 0 ∨ priceP x) : pairP ⟨cls, [], [], r⟩ ⟨i, k, u, t⟩ := by
  refine ⟨⟨by show (0 : Int) ≤ u; omega, hu⟩, by show (0 : Int) ≤ i; omega, by show (i : Int) < k; omega, ⟨a, b, ?_, ?_, ht⟩, h⟩
  · show cls[((i : Nat) : Int).toNat]? = _; rw [Int.toNat_natCast]; exact ha
  · show cls[((k : Nat) : Int).toNat]? = _; rw [Int.toNat_natCast]; exact hb
structure LoQ (cls : List (List Opt)) (l : List Load) (i j : Nat) : Prop where
  at_ : ∀ n, n < l.length → loadAt ⟨cls, [], [], 0⟩ l n
  lt : ∀ x ∈ l, x.cls < i ∨ (x.cls = i ∧ x.opt < j)
  len : l.length ≤ i * 4 + j
section
variable {cls : List (List Opt)} {l : List Load} {i j : Nat}
end
theorem pen_ok {n : Int} (h : n = 0 ∨ priceP n) : priceP (bif true then (if n > 1 then n else 1) else (if n < 1 then n else 1)) := by
  dsimp only [cond]
  unfold priceP at *
  split <;> omega
def CtQ (cls : List (List Opt)) (r : Int) (c : Count) : Prop := countP_ ⟨cls, [], [], r⟩ c ∧ c.loads.length ≤ 1000
def cb4 (a : Int) (l : AV) (m p : Int) : Option AObj := some ⟨78, 4, false, .box [vint .i64 a, l, vint .i64 m, vint .i64 p]⟩
structure Made (m : Model) : Prop where
  ok : modelE m = 0
  laid : Laid m
  some_ : ∀ l ∈ m.classes, 1 ≤ l.length ∧ l.length ≤ 4
  few : m.classes.length ≤ 5
def cFst : Code → Code
  | .seq a _ => a
  | c => c
def cSnd : Code → Code
  | .seq _ b => b
  | c => c
noncomputable def codeM : Code := Tryz.f32.body.getD .skip
noncomputable def codeB : Code := cFst (cSnd (cSnd codeM))
noncomputable def codeC : Code := cFst (cSnd (cSnd (cSnd codeM)))
noncomputable def codeD : Code := cFst (cSnd (cSnd (cSnd (cSnd codeM))))
end Go.Proofs.YtihpjcmloecaaaaGreat.Cw
/-
  Symmetry: costs by dice (those of the even models).
-/
namespace Go.Proofs.YtihpjcmloecaaaaGreat.Cw
open Go Go.Cw Go.Proofs
set_option linter.unusedVariables false
set_option maxRecDepth 100000
set_option maxHeartbeats 8000000
def MCost (t : List Int) (k : Nat) (n : Int) (k2 : Nat) : Prop := ACall Tryz.prog 59 [.ptr 0 2 0 0] [dice t k] (fun r H' => r = vint .i64 n ∧ H' = [dice t k2])
theorem mcost_ex (t : List Int) (k : Nat) (ht : t.length ≤ 400) (hk : k ≤ t.length) : ∃ (n : Int) (k' : Nat), (n = 0 ∨ priceP n) ∧ k' ≤ t.length ∧ MCost t k n k' := by
  obtain ⟨v, ka, h0, h1, h2, hn⟩ := next_ex t k 5 ht hk (by omega) (by omega)
  obtain ⟨w, kb, g0, g1, g2, gn⟩ := next_ex t ka 30 ht h2 (by omega) (by omega)
  have call1 : ∀ {H : Heap} {K : AV → Heap → Prop}, H[0]? = some (dice t k) → K (vint .i64 v) (H.set 0 (dice t ka)) → vcFun Tryz.prog 31 [.ptr 0 2 0 0, vint .i64 5] H K := fun hi hK => by
    refine call_one (i := 0) hi (fun _ _ => rfl) [.ptr 0 2 0 0, vint .i64 5] rfl hn ?_
    rintro r H' ⟨rfl, rfl⟩
    exact ⟨_, rfl, fun _ _ => rfl, fun _ _ => rfl, hK⟩
  have call2 : ∀ {H : Heap} {K : AV → Heap → Prop}, H[0]? = some (dice t ka) → K (vint .i64 w) (H.set 0 (dice t kb)) → vcFun Tryz.prog 31 [.ptr 0 2 0 0, vint .i64 30] H K := fun hi hK => by
    refine call_one (i := 0) hi (fun _ _ => rfl) [.ptr 0 2 0 0, vint .i64 30] rfl gn ?_
    rintro r H' ⟨rfl, rfl⟩
    exact ⟨_, rfl, fun _ _ => rfl, fun _ _ => rfl, hK⟩
  by_cases c1 : v = 0
  · refine ⟨1099511627776, ka, .inr (.inr rfl), h2, ?_⟩
    unfold MCost
    refine acall_of tok mixed 13 rfl (fn := Tryz.f59) (c := Tryz.f59.body.getD .skip) (by kernel_rfl) (by kernel_rfl) (by kernel_rfl) rfl 1 rfl ?_
    repeat' (first | ((change vcFun _ _ _ _ _; refine call1 rfl ?_)) | refine o1 ?_ | refine o2 ?_ | refine k1 ?_ | refine k2 ?_ | refine k3 ?_ | refine k4 ?_ | refine k7 ?_ | refine And.intro ?_ ?_ | (intro h; first | exact Bool.noConfusion h | exact nz _ h | exact nl h | (simp at h; done) | (simp at h; first | (exfalso; omega) | skip) | skip) | fail)
    all_goals first
      | (exfalso; omega)
      | exact ret_obj [0] [dice t ka] rfl rfl ⟨rfl, trivial⟩ (r' := vint .i64 1099511627776) rfl ⟨rfl, rfl⟩
  by_cases c2 : v = 1 ∨ v = 2
  · refine ⟨1 + w, kb, .inr (.inl (by omega)), g2, ?_⟩
    unfold MCost
    refine acall_of tok mixed 13 rfl (fn := Tryz.f59) (c := Tryz.f59.body.getD .skip) (by kernel_rfl) (by kernel_rfl) (by kernel_rfl) rfl 1 rfl ?_
    repeat' (first | ((change vcFun _ _ _ _ _; refine call1 rfl ?_)) | ((change vcFun _ _ _ _ _; refine call2 rfl ?_)) | refine o1 ?_ | refine o2 ?_ | refine k1 ?_ | refine k2 ?_ | refine k3 ?_ | refine k4 ?_ | refine k6 ?_ | refine k7 ?_ | refine And.intro ?_ ?_ | (intro h; first | exact Bool.noConfusion h | exact nz _ h | exact nl h | (simp at h; done) | (simp at h; first | (exfalso; omega) | skip) | skip) | refine eqv_wrap (by omega) (by omega) ?_ | fail)
    all_goals first
      | (exfalso; omega)
      | exact ret_obj [0] [dice t kb] rfl rfl ⟨rfl, trivial⟩ (r' := vint .i64 (1 + w)) rfl ⟨rfl, rfl⟩
  · refine ⟨0, ka, .inl rfl, h2, ?_⟩
    unfold MCost
    refine acall_of tok mixed 13 rfl (fn := Tryz.f59) (c := Tryz.f59.body.getD .skip) (by kernel_rfl) (by kernel_rfl) (by kernel_rfl) rfl 1 rfl ?_
    repeat' (first | ((change vcFun _ _ _ _ _; refine call1 rfl ?_)) | refine o1 ?_ | refine o2 ?_ | refine k1 ?_ | refine k2 ?_ | refine k3 ?_ | refine k4 ?_ | refine k6 ?_ | refine k7 ?_ | refine And.intro ?_ ?_ | (intro h; first | exact Bool.noConfusion h | exact nz _ h | exact nl h | (simp at h; done) | (simp at h; first | (exfalso; omega) | skip) | skip) | fail)
    all_goals first
      | (exfalso; omega)
      | exact ret_obj [0] [dice t ka] rfl rfl ⟨rfl, trivial⟩ (r' := vint .i64 0) rfl ⟨rfl, rfl⟩
theorem call_mcost {t : List Int} {k : Nat} {H : Heap} {K : AV → Heap → Prop} (i : Nat) (hi : H[i]? = some (dice t k)) (ht : t.length ≤ 400) (hk : k ≤ t.length)
    (hK : ∀ n k2, (n = 0 ∨ priceP n) → k2 ≤ t.length → K (vint .i64 n) (H.set i (dice t k2))) : vcFun Tryz.prog 59 [.ptr i 2 0 0] H K := by
  obtain ⟨n, k', h1, h2, hc⟩ := mcost_ex t k ht hk
  refine call_one (i := i) hi (fun _ _ => rfl) [.ptr 0 2 0 0] rfl hc ?_
  rintro r H' ⟨rfl, rfl⟩
  exact ⟨_, rfl, fun _ _ => rfl, fun _ _ => rfl, hK n k' h1 h2⟩
end Go.Proofs.YtihpjcmloecaaaaGreat.Cw
/-
  Symmetry: pairs of even models (printed by tools/mkse2.py).
-/
namespace Go.Proofs.YtihpjcmloecaaaaGreat.Cw
open Go Go.Cw Go.Proofs
set_option linter.unusedVariables false
set_option maxRecDepth 100000
set_option maxHeartbeats 8000000
theorem call_mc {t : List Int} {k k2 : Nat} {n : Int} {H : Heap} {K : AV → Heap → Prop} (h : MCost t k n k2) (hi : H[0]? = some (dice t k)) (hK : K (vint .i64 n) (H.set 0 (dice t k2))) : vcFun Tryz.prog 59 [.ptr 0 2 0 0] H K := by
  refine call_one (i := 0) hi (fun _ _ => rfl) [.ptr 0 2 0 0] rfl h ?_
  rintro r H' ⟨rfl, rfl⟩
  exact ⟨_, rfl, fun _ _ => rfl, fun _ _ => rfl, hK⟩
theorem day_of {l : List Opt} (h : ∀ o ∈ l, o.place.time.day = 0 ∨ o.place.time.day = 1) {u : Nat} {o : Opt} (ho : l[u]? = some o) : o.place.time.day = 0 ∨ o.place.time.day = 1 := h o (List.mem_of_getElem? ho)
def evE (a1 a2 a3 a4 : Int) (o q : Opt) : Int :=
  if o.place.room = q.place.room ∧ 0 ≤ o.place.room then (if o.place.time.day = 0 then (if q.place.time.day = 0 then 1099511627776 else a1) else (if q.place.time.day = 0 then a2 else 1099511627776))
  else (if o.place.time.day = 0 then (if q.place.time.day = 0 then a3 else 0) else (if q.place.time.day = 0 then a4 else 0))
def evT (E : Opt → Opt → Int) (x y : List Opt) : List Int := x.flatMap fun o => y.map (E o)
theorem evT_len {E : Opt → Opt → Int} {y : List Opt} : ∀ x : List Opt, (evT E x y).length = x.length * y.length
  | [] => by simp [evT]
  | o :: x => by
    have := evT_len (E := E) (y := y) x
    unfold evT at *
    rw [List.flatMap_cons, List.length_append, this, List.length_map, List.length_cons, Nat.add_mul]; omega
theorem evT_snoc {E : Opt → Opt → Int} {x y : List Opt} {u : Nat} {o : Opt} (h : x[u]? = some o) : evT E (x.take (u + 1)) y = evT E (x.take u) y ++ y.map (E o) := by
  unfold evT; rw [tk_snoc h, List.flatMap_append]; simp
theorem evT_ok {a1 a2 a3 a4 : Int} {x y : List Opt} (p1 : a1 = 0 ∨ priceP a1) (p2 : a2 = 0 ∨ priceP a2) (p3 : a3 = 0 ∨ priceP a3) (p4 : a4 = 0 ∨ priceP a4) : ∀ n ∈ evT (evE a1 a2 a3 a4) x y, n = 0 ∨ priceP n := fun n hn => by
  obtain ⟨o, _, ho⟩ := List.mem_flatMap.1 hn
  obtain ⟨q, _, rfl⟩ := List.mem_map.1 ho
  have pf : (1099511627776 : Int) = 0 ∨ priceP 1099511627776 := .inr (.inr rfl)
  unfold evE
  repeat' split
  all_goals first | assumption | exact .inl rfl
theorem c_evenPairN (t : List Int) (k : Nat) (ht : t.length ≤ 400) (hk : k ≤ t.length) (C : List (List Opt))  (i j : Nat) (x y : List Opt) (hx : C[i]? = some x) (hy : C[j]? = some y) (hxl : x.length ≤ 7) (hyl : y.length ≤ 7)
    (hdx : ∀ o ∈ x, o.place.time.day = 0 ∨ o.place.time.day = 1) (hdy : ∀ o ∈ y, o.place.time.day = 0 ∨ o.place.time.day = 1) :
    ∃ (TT : List Int) (k' : Nat), k' ≤ t.length ∧ TT.length = x.length * y.length ∧ (∀ n ∈ TT, n = 0 ∨ priceP n) ∧ ACall Tryz.prog 60 [.ptr 0 2 0 0, .agg [.pv (.sl 1 (C.map optsRow)), nilA, nilA, vint .i64 2], vint .i64 i, vint .i64 j] [dice t k]
      (fun r H' => r = ag (Pair.row ⟨i, j, 1, TT⟩) ∧ H' = [dice t k']) := by
  obtain ⟨a1, ka, p1, p2, g1⟩ := mcost_ex t k ht hk
  obtain ⟨a2, kb, p3, p4, g2⟩ := mcost_ex t ka ht p2
  obtain ⟨a3, kc, p5, p6, g3⟩ := mcost_ex t kb ht p4
  obtain ⟨a4, kd, p7, p8, g4⟩ := mcost_ex t kc ht p6
  have hxy : x.length * y.length ≤ 49 := Nat.mul_le_mul hxl hyl
  refine ⟨evT (evE a1 a2 a3 a4) x y, kd, p8, evT_len x, evT_ok p1 p3 p5 p7, ?_⟩
  have hTl : ∀ u, u ≤ x.length → (evT (evE a1 a2 a3 a4) (x.take u) y).length = u * y.length := fun u hu => by rw [evT_len, List.length_take, Nat.min_eq_left hu]
  generalize hE : evE a1 a2 a3 a4 = E at *
  refine acall_of tok mixed 103 rfl (fn := Tryz.f60) (c := Tryz.f60.body.getD .skip) (by kernel_rfl) (by kernel_rfl) (by kernel_rfl) rfl 1 rfl ?_
  repeat' (first | ((change vcFun _ _ _ _ _; refine call_mc g1 rfl ?_)) | ((change vcFun _ _ _ _ _; refine call_mc g2 rfl ?_)) | ((change vcFun _ _ _ _ _; refine call_mc g3 rfl ?_)) | ((change vcFun _ _ _ _ _; refine call_mc g4 rfl ?_)) | refine o1 ?_ | refine o2 ?_ | refine k1 ?_ | refine k2 ?_ | refine k4 ?_ | refine And.intro ?_ ?_ | exact (by kernel_rfl : drawOk _ _ = true) | fail)
  refine loop_for (fun u : Nat => [(2, vint .i64 i), (3, vint .i64 j), (5, .ptr 1 4 0 0), (8, .ptr 2 4 0 0), (9, .ptr 3 4 0 0), (10, .ptr 4 4 0 0), (11, .ptr 5 4 0 0), (12, vint .i64 u)])
    (fun u => [dice t kd, some ⟨29, 4, false, .box [.pv (.sl 1 (C.map optsRow)), nilA, nilA, vint .i64 2]⟩, some ⟨72, 4, false, .box [vint .i64 0, vint .i64 0, vint .i64 0, nilA]⟩, some ⟨72, 4, false, .box [vint .i64 i, vint .i64 j, vint .i64 1, slP 6 1 ((evT E (x.take u) y).map intRow)]⟩, some ⟨136, 4, false, .box [vint .i64 1099511627776, vint .i64 a1, vint .i64 a2, vint .i64 1099511627776]⟩, some ⟨136, 4, false, .box [vint .i64 a3, vint .i64 0, vint .i64 a4, vint .i64 0]⟩, obP 3 1 ((evT E (x.take u) y).map intRow)])
    (fun u => u ≤ x.length) (fun u => x.length - u) 0 (Nat.zero_le _) ?_ ?_
  · exact back [0, 1, 2, 3, 4, 5, 6] rfl rfl (by repeat' (first | exact trivial | exact rfl | refine kept_bx ren_bx3 rfl ?_ | refine And.intro ?_ ?_)) (by repeat' (first | exact trivial | exact rfl | refine And.intro ?_ ?_))
  intro u hu
  have hTB := hTl u hu
  rcases Nat.lt_or_ge u x.length with hul | hug
  · obtain ⟨o, ho⟩ := getE hul
    have hdo := day_of hdx ho
    have hnx := evT_snoc (E := E) (y := y) ho
    generalize evT E (x.take u) y = TB at *
    repeat' (first | (refine fh_ob ?_) | (refine idx_sl (k := i) (at_map hx) rfl ?_) | refine o1 ?_ | refine o2 ?_ | refine k1 ?_ | refine k2 ?_ | refine k3 ?_ | refine k4 ?_ | refine k6 ?_ | refine And.intro ?_ ?_ | (intro h; first | exact Bool.noConfusion h | exact nz _ h | exact nl h | (simp at h; done) | (simp at h; first | (exfalso; omega) | skip) | skip) | refine eqv_len_map ?_ | fail)
    refine loop_for (fun v : Nat => [(2, vint .i64 i), (3, vint .i64 j), (5, .ptr 1 4 0 0), (8, .ptr 2 4 0 0), (9, .ptr 3 4 0 0), (10, .ptr 4 4 0 0), (11, .ptr 5 4 0 0), (12, vint .i64 u), (13, vint .i64 v)])
      (fun v => [dice t kd, some ⟨29, 4, false, .box [.pv (.sl 1 (C.map optsRow)), nilA, nilA, vint .i64 2]⟩, some ⟨72, 4, false, .box [vint .i64 0, vint .i64 0, vint .i64 0, nilA]⟩, some ⟨72, 4, false, .box [vint .i64 i, vint .i64 j, vint .i64 1, slP 6 1 ((TB ++ (y.take v).map (E o)).map intRow)]⟩, some ⟨136, 4, false, .box [vint .i64 1099511627776, vint .i64 a1, vint .i64 a2, vint .i64 1099511627776]⟩, some ⟨136, 4, false, .box [vint .i64 a3, vint .i64 0, vint .i64 a4, vint .i64 0]⟩, obP 3 1 ((TB ++ (y.take v).map (E o)).map intRow)])
      (fun v => v ≤ y.length) (fun v => y.length - v) 0 (Nat.zero_le _) ?_ ?_
    · rw [show TB ++ (y.take 0).map (E o) = TB by simp]
      exact back [0, 1, 2, 3, 4, 5, 6] rfl rfl (by repeat' (first | exact trivial | exact rfl | refine kept_ob rfl ?_ | refine kept_bx ren_bx3 rfl ?_ | refine And.intro ?_ ?_)) (by repeat' (first | exact trivial | exact rfl | refine And.intro ?_ ?_))
    intro v hv
    have hul2 : (u + 1) * y.length ≤ x.length * y.length := Nat.mul_le_mul_right _ hul
    rw [Nat.add_mul] at hul2
    rcases Nat.lt_or_ge v y.length with hvl | hvg
    · obtain ⟨q, hq⟩ := getE hvl
      have hdq := day_of hdy hq
      have hKl : (TB ++ (y.take v).map (E o)).length ≤ 49 := by rw [List.length_append, List.length_map, List.length_take]; omega
      have hstep : TB ++ (y.take (v + 1)).map (E o) = (TB ++ (y.take v).map (E o)) ++ [E o q] := by rw [tk_snoc hq, List.map_append, List.append_assoc]; rfl
      generalize TB ++ (y.take v).map (E o) = KS at *
      have hb1 : ((KS.map intRow).length + 1) * 8 ≤ 140737488355328 := by rw [List.length_map]; omega
      have hb2 : (KS.map intRow).length + 1 ≤ 9223372036854775807 := by rw [List.length_map]; omega
      rcases hdo with hdo | hdo
      · rcases hdq with hdq | hdq
        · repeat' (first | (refine fv_sl ?_) | (refine fh_ob ?_) | (refine idx_sl (k := i) (at_map hx) rfl ?_) | (refine idx_sl (k := j) (at_map hy) rfl ?_) | (refine idx_sl (k := u) (at_map ho) rfl ?_) | (refine idx_sl (k := v) (at_map hq) rfl ?_) | (refine eqv_to (0 : Int) (by rw [hdo]; decide) ?_) | (refine eqv_to (0 : Int) (by rw [hdq]; decide) ?_) | (refine ⟨0, rfl, (by decide), ?_⟩) | ((refine o_appD rfl rfl rfl rfl rfl rfl rfl rfl rfl rfl rfl hb1 hb2 ?_)) | refine o1 ?_ | refine o2 ?_ | refine k1 ?_ | refine k2 ?_ | refine k3 ?_ | refine k4 ?_ | refine k6 ?_ | refine And.intro ?_ ?_ | refine o3 ?_ | refine o4 ?_ | (intro h; first | exact Bool.noConfusion h | exact nz _ h | exact nl h | (simp at h; done) | (simp at h; first | (exfalso; omega) | skip) | skip) | exact (by kernel_rfl : drawOk _ _ = true) | refine eqv_len_map ?_ | refine eqv_wrap (by omega) (by omega) ?_ | fail)
          all_goals first
            | (refine ⟨v + 1, by omega, by omega, ?_⟩
               have hv : E o q = 1099511627776 := by rw [← hE]; unfold evE; rw [if_pos (by omega), if_pos hdo, if_pos hdq]
               rw [hstep, hv, map_snoc, sl_app, ob_app]
               refine back [0, 1, 2, 3, 4, 5, 10] rfl rfl ?_ ?_
               · repeat' (first | exact trivial | exact rfl | refine And.intro ?_ ?_)
               · repeat' (first | exact trivial | exact rfl | refine And.intro ?_ ?_))
            | (refine ⟨v + 1, by omega, by omega, ?_⟩
               have hv : E o q = a3 := by rw [← hE]; unfold evE; rw [if_neg (by omega), if_pos hdo, if_pos hdq]
               rw [hstep, hv, map_snoc, sl_app, ob_app]
               refine back [0, 1, 2, 3, 4, 5, 10] rfl rfl ?_ ?_
               · repeat' (first | exact trivial | exact rfl | refine And.intro ?_ ?_)
               · repeat' (first | exact trivial | exact rfl | refine And.intro ?_ ?_))
        · repeat' (first | (refine fv_sl ?_) | (refine fh_ob ?_) | (refine idx_sl (k := i) (at_map hx) rfl ?_) | (refine idx_sl (k := j) (at_map hy) rfl ?_) | (refine idx_sl (k := u) (at_map ho) rfl ?_) | (refine idx_sl (k := v) (at_map hq) rfl ?_) | (refine eqv_to (0 : Int) (by rw [hdo]; decide) ?_) | (refine eqv_to (1 : Int) (by rw [hdq]; decide) ?_) | (refine ⟨1, rfl, (by decide), ?_⟩) | ((refine o_appD rfl rfl rfl rfl rfl rfl rfl rfl rfl rfl rfl hb1 hb2 ?_)) | refine o1 ?_ | refine o2 ?_ | refine k1 ?_ | refine k2 ?_ | refine k3 ?_ | refine k4 ?_ | refine k6 ?_ | refine And.intro ?_ ?_ | refine o3 ?_ | refine o4 ?_ | (intro h; first | exact Bool.noConfusion h | exact nz _ h | exact nl h | (simp at h; done) | (simp at h; first | (exfalso; omega) | skip) | skip) | exact (by kernel_rfl : drawOk _ _ = true) | refine eqv_len_map ?_ | refine eqv_wrap (by omega) (by omega) ?_ | fail)
          all_goals first
            | (refine ⟨v + 1, by omega, by omega, ?_⟩
               have hv : E o q = a1 := by rw [← hE]; unfold evE; rw [if_pos (by omega), if_pos hdo, if_neg (by omega)]
               rw [hstep, hv, map_snoc, sl_app, ob_app]
               refine back [0, 1, 2, 3, 4, 5, 10] rfl rfl ?_ ?_
               · repeat' (first | exact trivial | exact rfl | refine And.intro ?_ ?_)
               · repeat' (first | exact trivial | exact rfl | refine And.intro ?_ ?_))
            | (refine ⟨v + 1, by omega, by omega, ?_⟩
               have hv : E o q = 0 := by rw [← hE]; unfold evE; rw [if_neg (by omega), if_pos hdo, if_neg (by omega)]
               rw [hstep, hv, map_snoc, sl_app, ob_app]
               refine back [0, 1, 2, 3, 4, 5, 10] rfl rfl ?_ ?_
               · repeat' (first | exact trivial | exact rfl | refine And.intro ?_ ?_)
               · repeat' (first | exact trivial | exact rfl | refine And.intro ?_ ?_))
      · rcases hdq with hdq | hdq
        · repeat' (first | (refine fv_sl ?_) | (refine fh_ob ?_) | (refine idx_sl (k := i) (at_map hx) rfl ?_) | (refine idx_sl (k := j) (at_map hy) rfl ?_) | (refine idx_sl (k := u) (at_map ho) rfl ?_) | (refine idx_sl (k := v) (at_map hq) rfl ?_) | (refine eqv_to (2 : Int) (by rw [hdo]; decide) ?_) | (refine eqv_to (2 : Int) (by rw [hdq]; decide) ?_) | (refine ⟨2, rfl, (by decide), ?_⟩) | ((refine o_appD rfl rfl rfl rfl rfl rfl rfl rfl rfl rfl rfl hb1 hb2 ?_)) | refine o1 ?_ | refine o2 ?_ | refine k1 ?_ | refine k2 ?_ | refine k3 ?_ | refine k4 ?_ | refine k6 ?_ | refine And.intro ?_ ?_ | refine o3 ?_ | refine o4 ?_ | (intro h; first | exact Bool.noConfusion h | exact nz _ h | exact nl h | (simp at h; done) | (simp at h; first | (exfalso; omega) | skip) | skip) | exact (by kernel_rfl : drawOk _ _ = true) | refine eqv_len_map ?_ | refine eqv_wrap (by omega) (by omega) ?_ | fail)
          all_goals first
            | (refine ⟨v + 1, by omega, by omega, ?_⟩
               have hv : E o q = a2 := by rw [← hE]; unfold evE; rw [if_pos (by omega), if_neg (by omega), if_pos hdq]
               rw [hstep, hv, map_snoc, sl_app, ob_app]
               refine back [0, 1, 2, 3, 4, 5, 10] rfl rfl ?_ ?_
               · repeat' (first | exact trivial | exact rfl | refine And.intro ?_ ?_)
               · repeat' (first | exact trivial | exact rfl | refine And.intro ?_ ?_))
            | (refine ⟨v + 1, by omega, by omega, ?_⟩
               have hv : E o q = a4 := by rw [← hE]; unfold evE; rw [if_neg (by omega), if_neg (by omega), if_pos hdq]
               rw [hstep, hv, map_snoc, sl_app, ob_app]
               refine back [0, 1, 2, 3, 4, 5, 10] rfl rfl ?_ ?_
               · repeat' (first | exact trivial | exact rfl | refine And.intro ?_ ?_)
               · repeat' (first | exact trivial | exact rfl | refine And.intro ?_ ?_))
        · repeat' (first | (refine fv_sl ?_) | (refine fh_ob ?_) | (refine idx_sl (k := i) (at_map hx) rfl ?_) | (refine idx_sl (k := j) (at_map hy) rfl ?_) | (refine idx_sl (k := u) (at_map ho) rfl ?_) | (refine idx_sl (k := v) (at_map hq) rfl ?_) | (refine eqv_to (2 : Int) (by rw [hdo]; decide) ?_) | (refine eqv_to (3 : Int) (by rw [hdq]; decide) ?_) | (refine ⟨3, rfl, (by decide), ?_⟩) | ((refine o_appD rfl rfl rfl rfl rfl rfl rfl rfl rfl rfl rfl hb1 hb2 ?_)) | refine o1 ?_ | refine o2 ?_ | refine k1 ?_ | refine k2 ?_ | refine k3 ?_ | refine k4 ?_ | refine k6 ?_ | refine And.intro ?_ ?_ | refine o3 ?_ | refine o4 ?_ | (intro h; first | exact Bool.noConfusion h | exact nz _ h | exact nl h | (simp at h; done) | (simp at h; first | (exfalso; omega) | skip) | skip) | exact (by kernel_rfl : drawOk _ _ = true) | refine eqv_len_map ?_ | refine eqv_wrap (by omega) (by omega) ?_ | fail)
          all_goals first
            | (refine ⟨v + 1, by omega, by omega, ?_⟩
               have hv : E o q = 1099511627776 := by rw [← hE]; unfold evE; rw [if_pos (by omega), if_neg (by omega), if_neg (by omega)]
               rw [hstep, hv, map_snoc, sl_app, ob_app]
               refine back [0, 1, 2, 3, 4, 5, 10] rfl rfl ?_ ?_
               · repeat' (first | exact trivial | exact rfl | refine And.intro ?_ ?_)
               · repeat' (first | exact trivial | exact rfl | refine And.intro ?_ ?_))
            | (refine ⟨v + 1, by omega, by omega, ?_⟩
               have hv : E o q = 0 := by rw [← hE]; unfold evE; rw [if_neg (by omega), if_neg (by omega), if_neg (by omega)]
               rw [hstep, hv, map_snoc, sl_app, ob_app]
               refine back [0, 1, 2, 3, 4, 5, 10] rfl rfl ?_ ?_
               · repeat' (first | exact trivial | exact rfl | refine And.intro ?_ ?_)
               · repeat' (first | exact trivial | exact rfl | refine And.intro ?_ ?_))
    · obtain rfl : v = y.length := by omega
      rw [List.take_length, ← hnx]
      repeat' (first | (refine fh_ob ?_) | (refine idx_sl (k := j) (at_map hy) rfl ?_) | refine o1 ?_ | refine o2 ?_ | refine k1 ?_ | refine k2 ?_ | refine k3 ?_ | refine k8 ?_ | refine And.intro ?_ ?_ | (intro h; first | exact Bool.noConfusion h | exact nz _ h | exact nl h | (simp at h; done) | (simp at h; first | (exfalso; omega) | skip) | skip) | refine eqv_len_map ?_ | refine eqv_wrap (by omega) (by omega) ?_ | fail)
      all_goals first
        | exact ⟨u + 1, by omega, by omega, back [0, 1, 2, 3, 4, 5, 6] rfl rfl (by repeat' (first | exact trivial | exact rfl | refine kept_ob rfl ?_ | refine kept_bx ren_bx3 rfl ?_ | refine And.intro ?_ ?_)) (by repeat' (first | exact trivial | exact rfl | refine And.intro ?_ ?_))⟩
  · obtain rfl : u = x.length := by omega
    rw [List.take_length] at hTB ⊢
    generalize evT E x y = TB at *
    refine forceH_in ?_
    refine ghost_seq (Γ' := [(2, vint .i64 i), (3, vint .i64 j), (5, .ptr 1 4 0 0), (8, .ptr 2 4 0 0), (9, .ptr 3 4 0 0), (12, vint .i64 x.length)]) (H' := [dice t kd, some ⟨29, 4, false, .box [.pv (.sl 1 (C.map optsRow)), nilA, nilA, vint .i64 2]⟩, some ⟨72, 4, false, .box [vint .i64 0, vint .i64 0, vint .i64 0, nilA]⟩, some ⟨72, 4, false, .box [vint .i64 i, vint .i64 j, vint .i64 1, .pv (.sl 1 (TB.map intRow))]⟩]) (Ghost.shut_sl (i := 3) (c := 3) (id := 6) rfl rfl rfl (by decide) fun H' hl h2 hH => back [0, 1, 2, 3] rfl rfl ⟨hH 0 (by decide) (by decide), hH 1 (by decide) (by decide), hH 2 (by decide) (by decide), h2, trivial⟩ (by repeat' (first | exact trivial | exact rfl | refine And.intro ?_ ?_))) ?_
    repeat' (first | (refine idx_sl (k := i) (at_map hx) rfl ?_) | refine o1 ?_ | refine o2 ?_ | refine k1 ?_ | refine k2 ?_ | refine k3 ?_ | refine k7 ?_ | refine k8 ?_ | refine And.intro ?_ ?_ | (intro h; first | exact Bool.noConfusion h | exact nz _ h | exact nl h | (simp at h; done) | (simp at h; first | (exfalso; omega) | skip) | skip) | refine eqv_len_map ?_ | fail)
    exact ret_obj [0] [dice t kd] rfl rfl (by repeat' (first | exact trivial | exact rfl | refine And.intro ?_ ?_)) (r' := ag (Pair.row ⟨i, j, 1, TB⟩)) rfl ⟨rfl, rfl⟩
theorem c_evenPairC (t : List Int) (k : Nat) (ht : t.length ≤ 400) (hk : k ≤ t.length) (C : List (List Opt)) (np : Nat) (rows : List (List PV)) (i j : Nat) (x y : List Opt) (hx : C[i]? = some x) (hy : C[j]? = some y) (hxl : x.length ≤ 7) (hyl : y.length ≤ 7)
    (hdx : ∀ o ∈ x, o.place.time.day = 0 ∨ o.place.time.day = 1) (hdy : ∀ o ∈ y, o.place.time.day = 0 ∨ o.place.time.day = 1) :
    ∃ (TT : List Int) (k' : Nat), k' ≤ t.length ∧ TT.length = x.length * y.length ∧ (∀ n ∈ TT, n = 0 ∨ priceP n) ∧ ACall Tryz.prog 60 [.ptr 0 2 0 0, .agg [.pv (.sl 1 (C.map optsRow)), .ms 1 4 0 np, nilA, vint .i64 2], vint .i64 i, vint .i64 j] [dice t k, some ⟨72, 4, false, .p rows⟩]
      (fun r H' => r = ag (Pair.row ⟨i, j, 1, TT⟩) ∧ H' = [dice t k', some ⟨72, 4, false, .p rows⟩]) := by
  obtain ⟨a1, ka, p1, p2, g1⟩ := mcost_ex t k ht hk
  obtain ⟨a2, kb, p3, p4, g2⟩ := mcost_ex t ka ht p2
  obtain ⟨a3, kc, p5, p6, g3⟩ := mcost_ex t kb ht p4
  obtain ⟨a4, kd, p7, p8, g4⟩ := mcost_ex t kc ht p6
  have hxy : x.length * y.length ≤ 49 := Nat.mul_le_mul hxl hyl
  refine ⟨evT (evE a1 a2 a3 a4) x y, kd, p8, evT_len x, evT_ok p1 p3 p5 p7, ?_⟩
  have hTl : ∀ u, u ≤ x.length → (evT (evE a1 a2 a3 a4) (x.take u) y).length = u * y.length := fun u hu => by rw [evT_len, List.length_take, Nat.min_eq_left hu]
  generalize hE : evE a1 a2 a3 a4 = E at *
  refine acall_of tok mixed 103 rfl (fn := Tryz.f60) (c := Tryz.f60.body.getD .skip) (by kernel_rfl) (by kernel_rfl) (by kernel_rfl) rfl 2 rfl ?_
  repeat' (first | ((change vcFun _ _ _ _ _; refine call_mc g1 rfl ?_)) | ((change vcFun _ _ _ _ _; refine call_mc g2 rfl ?_)) | ((change vcFun _ _ _ _ _; refine call_mc g3 rfl ?_)) | ((change vcFun _ _ _ _ _; refine call_mc g4 rfl ?_)) | refine o1 ?_ | refine o2 ?_ | refine k1 ?_ | refine k2 ?_ | refine k4 ?_ | refine And.intro ?_ ?_ | exact (by kernel_rfl : drawOk _ _ = true) | fail)
  refine loop_for (fun u : Nat => [(2, vint .i64 i), (3, vint .i64 j), (5, .ptr 2 4 0 0), (8, .ptr 3 4 0 0), (9, .ptr 4 4 0 0), (10, .ptr 5 4 0 0), (11, .ptr 6 4 0 0), (12, vint .i64 u)])
    (fun u => [dice t kd, some ⟨72, 4, false, .p rows⟩, some ⟨29, 4, false, .box [.pv (.sl 1 (C.map optsRow)), .ms 1 4 0 np, nilA, vint .i64 2]⟩, some ⟨72, 4, false, .box [vint .i64 0, vint .i64 0, vint .i64 0, nilA]⟩, some ⟨72, 4, false, .box [vint .i64 i, vint .i64 j, vint .i64 1, slP 7 1 ((evT E (x.take u) y).map intRow)]⟩, some ⟨136, 4, false, .box [vint .i64 1099511627776, vint .i64 a1, vint .i64 a2, vint .i64 1099511627776]⟩, some ⟨136, 4, false, .box [vint .i64 a3, vint .i64 0, vint .i64 a4, vint .i64 0]⟩, obP 3 1 ((evT E (x.take u) y).map intRow)])
    (fun u => u ≤ x.length) (fun u => x.length - u) 0 (Nat.zero_le _) ?_ ?_
  · exact back [0, 1, 2, 3, 4, 5, 6, 7] rfl rfl (by repeat' (first | exact trivial | exact rfl | refine kept_bx ren_bx3 rfl ?_ | refine And.intro ?_ ?_)) (by repeat' (first | exact trivial | exact rfl | refine And.intro ?_ ?_))
  intro u hu
  have hTB := hTl u hu
  rcases Nat.lt_or_ge u x.length with hul | hug
  · obtain ⟨o, ho⟩ := getE hul
    have hdo := day_of hdx ho
    have hnx := evT_snoc (E := E) (y := y) ho
    generalize evT E (x.take u) y = TB at *
    repeat' (first | (refine fh_ob ?_) | (refine idx_sl (k := i) (at_map hx) rfl ?_) | refine o1 ?_ | refine o2 ?_ | refine k1 ?_ | refine k2 ?_ | refine k3 ?_ | refine k4 ?_ | refine k6 ?_ | refine And.intro ?_ ?_ | (intro h; first | exact Bool.noConfusion h | exact nz _ h | exact nl h | (simp at h; done) | (simp at h; first | (exfalso; omega) | skip) | skip) | refine eqv_len_map ?_ | fail)
    refine loop_for (fun v : Nat => [(2, vint .i64 i), (3, vint .i64 j), (5, .ptr 2 4 0 0), (8, .ptr 3 4 0 0), (9, .ptr 4 4 0 0), (10, .ptr 5 4 0 0), (11, .ptr 6 4 0 0), (12, vint .i64 u), (13, vint .i64 v)])
      (fun v => [dice t kd, some ⟨72, 4, false, .p rows⟩, some ⟨29, 4, false, .box [.pv (.sl 1 (C.map optsRow)), .ms 1 4 0 np, nilA, vint .i64 2]⟩, some ⟨72, 4, false, .box [vint .i64 0, vint .i64 0, vint .i64 0, nilA]⟩, some ⟨72, 4, false, .box [vint .i64 i, vint .i64 j, vint .i64 1, slP 7 1 ((TB ++ (y.take v).map (E o)).map intRow)]⟩, some ⟨136, 4, false, .box [vint .i64 1099511627776, vint .i64 a1, vint .i64 a2, vint .i64 1099511627776]⟩, some ⟨136, 4, false, .box [vint .i64 a3, vint .i64 0, vint .i64 a4, vint .i64 0]⟩, obP 3 1 ((TB ++ (y.take v).map (E o)).map intRow)])
      (fun v => v ≤ y.length) (fun v => y.length - v) 0 (Nat.zero_le _) ?_ ?_
    · rw [show TB ++ (y.take 0).map (E o) = TB by simp]
      exact back [0, 1, 2, 3, 4, 5, 6, 7] rfl rfl (by repeat' (first | exact trivial | exact rfl | refine kept_ob rfl ?_ | refine kept_bx ren_bx3 rfl ?_ | refine And.intro ?_ ?_)) (by repeat' (first | exact trivial | exact rfl | refine And.intro ?_ ?_))
    intro v hv
    have hul2 : (u + 1) * y.length ≤ x.length * y.length := Nat.mul_le_mul_right _ hul
    rw [Nat.add_mul] at hul2
    rcases Nat.lt_or_ge v y.length with hvl | hvg
    · obtain ⟨q, hq⟩ := getE hvl
      have hdq := day_of hdy hq
      have hKl : (TB ++ (y.take v).map (E o)).length ≤ 49 := by rw [List.length_append, List.length_map, List.length_take]; omega
      have hstep : TB ++ (y.take (v + 1)).map (E o) = (TB ++ (y.take v).map (E o)) ++ [E o q] := by rw [tk_snoc hq, List.map_append, List.append_assoc]; rfl
      generalize TB ++ (y.take v).map (E o) = KS at *
      have hb1 : ((KS.map intRow).length + 1) * 8 ≤ 140737488355328 := by rw [List.length_map]; omega
      have hb2 : (KS.map intRow).length + 1 ≤ 9223372036854775807 := by rw [List.length_map]; omega
      rcases hdo with hdo | hdo
      · rcases hdq with hdq | hdq
        · repeat' (first | (refine fv_sl ?_) | (refine fh_ob ?_) | (refine idx_sl (k := i) (at_map hx) rfl ?_) | (refine idx_sl (k := j) (at_map hy) rfl ?_) | (refine idx_sl (k := u) (at_map ho) rfl ?_) | (refine idx_sl (k := v) (at_map hq) rfl ?_) | (refine eqv_to (0 : Int) (by rw [hdo]; decide) ?_) | (refine eqv_to (0 : Int) (by rw [hdq]; decide) ?_) | (refine ⟨0, rfl, (by decide), ?_⟩) | ((refine o_appD rfl rfl rfl rfl rfl rfl rfl rfl rfl rfl rfl hb1 hb2 ?_)) | refine o1 ?_ | refine o2 ?_ | refine k1 ?_ | refine k2 ?_ | refine k3 ?_ | refine k4 ?_ | refine k6 ?_ | refine And.intro ?_ ?_ | refine o3 ?_ | refine o4 ?_ | (intro h; first | exact Bool.noConfusion h | exact nz _ h | exact nl h | (simp at h; done) | (simp at h; first | (exfalso; omega) | skip) | skip) | exact (by kernel_rfl : drawOk _ _ = true) | refine eqv_len_map ?_ | refine eqv_wrap (by omega) (by omega) ?_ | fail)
          all_goals first
            | (refine ⟨v + 1, by omega, by omega, ?_⟩
               have hv : E o q = 1099511627776 := by rw [← hE]; unfold evE; rw [if_pos (by omega), if_pos hdo, if_pos hdq]
               rw [hstep, hv, map_snoc, sl_app, ob_app]
               refine back [0, 1, 2, 3, 4, 5, 6, 11] rfl rfl ?_ ?_
               · repeat' (first | exact trivial | exact rfl | refine And.intro ?_ ?_)
               · repeat' (first | exact trivial | exact rfl | refine And.intro ?_ ?_))
            | (refine ⟨v + 1, by omega, by omega, ?_⟩
               have hv : E o q = a3 := by rw [← hE]; unfold evE; rw [if_neg (by omega), if_pos hdo, if_pos hdq]
               rw [hstep, hv, map_snoc, sl_app, ob_app]
               refine back [0, 1, 2, 3, 4, 5, 6, 11] rfl rfl ?_ ?_
               · repeat' (first | exact trivial | exact rfl | refine And.intro ?_ ?_)
               · repeat' (first | exact trivial | exact rfl | refine And.intro ?_ ?_))
        · repeat' (first | (refine fv_sl ?_) | (refine fh_ob ?_) | (refine idx_sl (k := i) (at_map hx) rfl ?_) | (refine idx_sl (k := j) (at_map hy) rfl ?_) | (refine idx_sl (k := u) (at_map ho) rfl ?_) | (refine idx_sl (k := v) (at_map hq) rfl ?_) | (refine eqv_to (0 : Int) (by rw [hdo]; decide) ?_) | (refine eqv_to (1 : Int) (by rw [hdq]; decide) ?_) | (refine ⟨1, rfl, (by decide), ?_⟩) | ((refine o_appD rfl rfl rfl rfl rfl rfl rfl rfl rfl rfl rfl hb1 hb2 ?_)) | refine o1 ?_ | refine o2 ?_ | refine k1 ?_ | refine k2 ?_ | refine k3 ?_ | refine k4 ?_ | refine k6 ?_ | refine And.intro ?_ ?_ | refine o3 ?_ | refine o4 ?_ | (intro h; first | exact Bool.noConfusion h | exact nz _ h | exact nl h | (simp at h; done) | (simp at h; first | (exfalso; omega) | skip) | skip) | exact (by kernel_rfl : drawOk _ _ = true) | refine eqv_len_map ?_ | refine eqv_wrap (by omega) (by omega) ?_ | fail)
          all_goals first
            | (refine ⟨v + 1, by omega, by omega, ?_⟩
               have hv : E o q = a1 := by rw [← hE]; unfold evE; rw [if_pos (by omega), if_pos hdo, if_neg (by omega)]
               rw [hstep, hv, map_snoc, sl_app, ob_app]
               refine back [0, 1, 2, 3, 4, 5, 6, 11] rfl rfl ?_ ?_
               · repeat' (first | exact trivial | exact rfl | refine And.intro ?_ ?_)
               · repeat' (first | exact trivial | exact rfl | refine And.intro ?_ ?_))
            | (refine ⟨v + 1, by omega, by omega, ?_⟩
               have hv : E o q = 0 := by rw [← hE]; unfold evE; rw [if_neg (by omega), if_pos hdo, if_neg (by omega)]
               rw [hstep, hv, map_snoc, sl_app, ob_app]
               refine back [0, 1, 2, 3, 4, 5, 6, 11] rfl rfl ?_ ?_
               · repeat' (first | exact trivial | exact rfl | refine And.intro ?_ ?_)
               · repeat' (first | exact trivial | exact rfl | refine And.intro ?_ ?_))
      · rcases hdq with hdq | hdq
        · repeat' (first | (refine fv_sl ?_) | (refine fh_ob ?_) | (refine idx_sl (k := i) (at_map hx) rfl ?_) | (refine idx_sl (k := j) (at_map hy) rfl ?_) | (refine idx_sl (k := u) (at_map ho) rfl ?_) | (refine idx_sl (k := v) (at_map hq) rfl ?_) | (refine eqv_to (2 : Int) (by rw [hdo]; decide) ?_) | (refine eqv_to (2 : Int) (by rw [hdq]; decide) ?_) | (refine ⟨2, rfl, (by decide), ?_⟩) | ((refine o_appD rfl rfl rfl rfl rfl rfl rfl rfl rfl rfl rfl hb1 hb2 ?_)) | refine o1 ?_ | refine o2 ?_ | refine k1 ?_ | refine k2 ?_ | refine k3 ?_ | refine k4 ?_ | refine k6 ?_ | refine And.intro ?_ ?_ | refine o3 ?_ | refine o4 ?_ | (intro h; first | exact Bool.noConfusion h | exact nz _ h | exact nl h | (simp at h; done) | (simp at h; first | (exfalso; omega) | skip) | skip) | exact (by kernel_rfl : drawOk _ _ = true) | refine eqv_len_map ?_ | refine eqv_wrap (by omega) (by omega) ?_ | fail)
          all_goals first
            | (refine ⟨v + 1, by omega, by omega, ?_⟩
               have hv : E o q = a2 := by rw [← hE]; unfold evE; rw [if_pos (by omega), if_neg (by omega), if_pos hdq]
               rw [hstep, hv, map_snoc, sl_app, ob_app]
               refine back [0, 1, 2, 3, 4, 5, 6, 11] rfl rfl ?_ ?_
               · repeat' (first | exact trivial | exact rfl | refine And.intro ?_ ?_)
               · repeat' (first | exact trivial | exact rfl | refine And.intro ?_ ?_))
            | (refine ⟨v + 1, by omega, by omega, ?_⟩
               have hv : E o q = a4 := by rw [← hE]; unfold evE; rw [if_neg (by omega), if_neg (by omega), if_pos hdq]
               rw [hstep, hv, map_snoc, sl_app, ob_app]
               refine back [0, 1, 2, 3, 4, 5, 6, 11] rfl rfl ?_ ?_
               · repeat' (first | exact trivial | exact rfl | refine And.intro ?_ ?_)
               · repeat' (first | exact trivial | exact rfl | refine And.intro ?_ ?_))
        · repeat' (first | (refine fv_sl ?_) | (refine fh_ob ?_) | (refine idx_sl (k := i) (at_map hx) rfl ?_) | (refine idx_sl (k := j) (at_map hy) rfl ?_) | (refine idx_sl (k := u) (at_map ho) rfl ?_) | (refine idx_sl (k := v) (at_map hq) rfl ?_) | (refine eqv_to (2 : Int) (by rw [hdo]; decide) ?_) | (refine eqv_to (3 : Int) (by rw [hdq]; decide) ?_) | (refine ⟨3, rfl, (by decide), ?_⟩) | ((refine o_appD rfl rfl rfl rfl rfl rfl rfl rfl rfl rfl rfl hb1 hb2 ?_)) | refine o1 ?_ | refine o2 ?_ | refine k1 ?_ | refine k2 ?_ | refine k3 ?_ | refine k4 ?_ | refine k6 ?_ | refine And.intro ?_ ?_ | refine o3 ?_ | refine o4 ?_ | (intro h; first | exact Bool.noConfusion h | exact nz _ h | exact nl h | (simp at h; done) | (simp at h; first | (exfalso; omega) | skip) | skip) | exact (by kernel_rfl : drawOk _ _ = true) | refine eqv_len_map ?_ | refine eqv_wrap (by omega) (by omega) ?_ | fail)
          all_goals first
            | (refine ⟨v + 1, by omega, by omega, ?_⟩
               have hv : E o q = 1099511627776 := by rw [← hE]; unfold evE; rw [if_pos (by omega), if_neg (by omega), if_neg (by omega)]
               rw [hstep, hv, map_snoc, sl_app, ob_app]
               refine back [0, 1, 2, 3, 4, 5, 6, 11] rfl rfl ?_ ?_
               · repeat' (first | exact trivial | exact rfl | refine And.intro ?_ ?_)
               · repeat' (first | exact trivial | exact rfl | refine And.intro ?_ ?_))
            | (refine ⟨v + 1, by omega, by omega, ?_⟩
               have hv : E o q = 0 := by rw [← hE]; unfold evE; rw [if_neg (by omega), if_neg (by omega), if_neg (by omega)]
               rw [hstep, hv, map_snoc, sl_app, ob_app]
               refine back [0, 1, 2, 3, 4, 5, 6, 11] rfl rfl ?_ ?_
               · repeat' (first | exact trivial | exact rfl | refine And.intro ?_ ?_)
               · repeat' (first | exact trivial | exact rfl | refine And.intro ?_ ?_))
    · obtain rfl : v = y.length := by omega
      rw [List.take_length, ← hnx]
      repeat' (first | (refine fh_ob ?_) | (refine idx_sl (k := j) (at_map hy) rfl ?_) | refine o1 ?_ | refine o2 ?_ | refine k1 ?_ | refine k2 ?_ | refine k3 ?_ | refine k8 ?_ | refine And.intro ?_ ?_ | (intro h; first | exact Bool.noConfusion h | exact nz _ h | exact nl h | (simp at h; done) | (simp at h; first | (exfalso; omega) | skip) | skip) | refine eqv_len_map ?_ | refine eqv_wrap (by omega) (by omega) ?_ | fail)
      all_goals first
        | exact ⟨u + 1, by omega, by omega, back [0, 1, 2, 3, 4, 5, 6, 7] rfl rfl (by repeat' (first | exact trivial | exact rfl | refine kept_ob rfl ?_ | refine kept_bx ren_bx3 rfl ?_ | refine And.intro ?_ ?_)) (by repeat' (first | exact trivial | exact rfl | refine And.intro ?_ ?_))⟩
  · obtain rfl : u = x.length := by omega
    rw [List.take_length] at hTB ⊢
    generalize evT E x y = TB at *
    refine forceH_in ?_
    refine ghost_seq (Γ' := [(2, vint .i64 i), (3, vint .i64 j), (5, .ptr 2 4 0 0), (8, .ptr 3 4 0 0), (9, .ptr 4 4 0 0), (12, vint .i64 x.length)]) (H' := [dice t kd, some ⟨72, 4, false, .p rows⟩, some ⟨29, 4, false, .box [.pv (.sl 1 (C.map optsRow)), .ms 1 4 0 np, nilA, vint .i64 2]⟩, some ⟨72, 4, false, .box [vint .i64 0, vint .i64 0, vint .i64 0, nilA]⟩, some ⟨72, 4, false, .box [vint .i64 i, vint .i64 j, vint .i64 1, .pv (.sl 1 (TB.map intRow))]⟩]) (Ghost.shut_sl (i := 4) (c := 3) (id := 7) rfl rfl rfl (by decide) fun H' hl h2 hH => back [0, 1, 2, 3, 4] rfl rfl ⟨hH 0 (by decide) (by decide), hH 1 (by decide) (by decide), hH 2 (by decide) (by decide), hH 3 (by decide) (by decide), h2, trivial⟩ (by repeat' (first | exact trivial | exact rfl | refine And.intro ?_ ?_))) ?_
    repeat' (first | (refine idx_sl (k := i) (at_map hx) rfl ?_) | refine o1 ?_ | refine o2 ?_ | refine k1 ?_ | refine k2 ?_ | refine k3 ?_ | refine k7 ?_ | refine k8 ?_ | refine And.intro ?_ ?_ | (intro h; first | exact Bool.noConfusion h | exact nz _ h | exact nl h | (simp at h; done) | (simp at h; first | (exfalso; omega) | skip) | skip) | refine eqv_len_map ?_ | fail)
    exact ret_obj [0, 1] [dice t kd, some ⟨72, 4, false, .p rows⟩] rfl rfl (by repeat' (first | exact trivial | exact rfl | refine And.intro ?_ ?_)) (r' := ag (Pair.row ⟨i, j, 1, TB⟩)) rfl ⟨rfl, rfl⟩
end Go.Proofs.YtihpjcmloecaaaaGreat.Cw
/-
  Symmetry, plain: loads put in one by one.
-/
namespace Go.Proofs.YtihpjcmloecaaaaGreat.Cw
open Go Go.Cw Go.Proofs
set_option linter.unusedVariables false
structure LdQ (C : List (List Opt)) (L : List Load) (i k : Nat) : Prop where
  at_ : ∀ j, j < L.length → loadAt ⟨C, [], [], 2⟩ L j
  lt : ∀ x ∈ L, x.cls < i ∨ (x.cls = i ∧ x.opt < k)
theorem LdQ.nil {C : List (List Opt)} : LdQ C [] 0 0 := ⟨fun j h => absurd h (Nat.not_lt_zero _), fun x h => absurd h List.not_mem_nil⟩
theorem LdQ.skip {C : List (List Opt)} {L : List Load} {i k : Nat} (h : LdQ C L i k) : LdQ C L i (k + 1) := ⟨h.at_, fun x hx => by have := h.lt x hx; omega⟩
theorem LdQ.next {C : List (List Opt)} {L : List Load} {i k : Nat} (h : LdQ C L i k) : LdQ C L (i + 1) 0 := ⟨h.at_, fun x hx => by have := h.lt x hx; omega⟩
theorem LdQ.app {C : List (List Opt)} {L : List Load} {i k : Nat} {l : List Opt} {w : Int} (h : LdQ C L i k) (hl : C[i]? = some l) (hk : k < l.length) (hw : 1 ≤ w ∧ w ≤ 1000) : LdQ C (L ++ [⟨i, k, w⟩]) i (k + 1) := by
  refine ⟨fun j hj x hx => ?_, fun x hx => ?_⟩
  · simp only [List.length_append, List.length_cons, List.length_nil] at hj
    rcases Nat.lt_or_ge j L.length with h1 | h1
    · rw [List.getElem?_append_left h1] at hx
      obtain ⟨a, b, c, d⟩ := h.at_ j h1 x hx
      exact ⟨a, b, c, fun e y he hy => d e y he (by rw [List.getElem?_append_left (by omega)] at hy; exact hy)⟩
    · obtain rfl : j = L.length := by omega
      rw [List.getElem?_append_right (Nat.le_refl _)] at hx
      simp at hx; subst hx
      refine ⟨⟨by simp, by simp, l, by simpa using hl, by show (k : Int) < _; omega⟩, hw.1, hw.2, fun e y he hy => ?_⟩
      rw [List.getElem?_append_left (by omega)] at hy
      have := h.lt y (List.mem_of_getElem? hy)
      exact this
  · rcases List.mem_append.1 hx with hx | hx
    · have := h.lt x hx; omega
    · simp at hx; subst hx; exact .inr ⟨rfl, by show (k : Int) < ((k + 1 : Nat) : Int); omega⟩
end Go.Proofs.YtihpjcmloecaaaaGreat.Cw
/-
  Symmetry: the counts of even models.
-/
namespace Go.Proofs.YtihpjcmloecaaaaGreat.Cw
open Go Go.Cw Go.Proofs
set_option linter.unusedVariables false
set_option maxRecDepth 100000
set_option maxHeartbeats 8000000
def evM (C : List (List Opt)) (PR : List (List PV)) : Option AObj := some ⟨29, 4, false, .box [.pv (.sl 1 (C.map optsRow)), .pv (.sl 4 PR), .pv (.sl 4 []), vint .i64 2]⟩
def evC (s : AV) (mo pe : Int) : Option AObj := some ⟨78, 4, false, .box [vint .i64 1, s, vint .i64 mo, vint .i64 pe]⟩
theorem c_evenCounts (t : List Int) (k : Nat) (ht : t.length ≤ 400) (hk : k ≤ t.length) (C : List (List Opt)) (PR : List (List PV)) (R : Nat) (hR : R ≤ 3) (hC : C.length ≤ 5) (hl : ∀ l ∈ C, l.length ≤ 7) :
    ACall Tryz.prog 61 [.ptr 0 2 0 0, .agg [.pv (.sl 1 (C.map optsRow)), .pv (.sl 4 PR), .pv (.sl 4 []), vint .i64 2], vint .i64 R] [dice t k]
      (fun r H' => ∃ (L : List Count) (k' : Nat), k' ≤ t.length ∧ L.length ≤ 6 ∧ (∀ c ∈ L, CtQ C 2 c) ∧ r = .pv (.sl 4 (L.map Count.row)) ∧ H' = [dice t k']) := by
  refine acall_of tok mixed 102 rfl (fn := Tryz.f61) (c := Tryz.f61.body.getD .skip) (by kernel_rfl) (by kernel_rfl) (by kernel_rfl) rfl 1 rfl ?_
  repeat' (first | refine o1 ?_ | refine o2 ?_ | refine k1 ?_ | refine k2 ?_ | refine k4 ?_ | fail)
  refine loop_for (fun z : Nat × Nat × List Int => [(0, .ptr 0 2 0 0), (2, vint .i64 R), (4, .ptr 1 4 0 0), (7, slP 2 1 (z.2.2.map intRow)), (8, vint .i64 z.1)])
    (fun z => [dice t z.2.1, evM C PR, obP 3 1 (z.2.2.map intRow)])
    (fun z => z.1 ≤ C.length ∧ z.2.1 ≤ t.length ∧ z.2.2.length = z.1 ∧ ∀ n ∈ z.2.2, 1 ≤ n ∧ n ≤ 1000) (fun z => C.length - z.1) (0, k, []) ⟨Nat.zero_le _, hk, rfl, fun n h => absurd h List.not_mem_nil⟩ ?_ ?_
  · exact back [0, 1, 2] rfl rfl (by repeat' (first | exact trivial | exact rfl | refine And.intro ?_ ?_)) (by repeat' (first | exact trivial | exact rfl | refine And.intro ?_ ?_))
  rintro ⟨i, k, W⟩ ⟨hi, hk, hWl, hW⟩
  dsimp only at hi hk hWl hW ⊢
  dsimp only [evM]
  rcases Nat.lt_or_ge i C.length with hlt | hge
  · have hb1 : ((W.map intRow).length + 1) * 8 ≤ 140737488355328 := by rw [List.length_map]; omega
    have hb2 : (W.map intRow).length + 1 ≤ 9223372036854775807 := by rw [List.length_map]; omega
    repeat' (first | (refine fv_sl ?_) | (refine fh_ob ?_) | ((refine o_app rfl rfl rfl rfl rfl rfl rfl rfl rfl rfl rfl hb1 hb2 ?_)) | refine o1 ?_ | refine o2 ?_ | refine k1 ?_ | refine k2 ?_ | refine k3 ?_ | refine k4 ?_ | refine k6 ?_ | refine And.intro ?_ ?_ | (intro h; first | exact Bool.noConfusion h | exact nz _ h | exact nl h | (simp at h; done) | (simp at h; first | (exfalso; omega) | skip) | skip) | refine eqv_len_map ?_ | refine eqv_wrap (by omega) (by omega) ?_ | (change vcFun _ _ _ _ _; refine call_next 0 rfl (by assumption) (by assumption) (by omega) (by omega) ?_; intro v kq hv1 hv2 hkq) | fail)
    all_goals first
      | (exfalso; omega)
      | (refine ⟨(i + 1, kq, W ++ [1 + v]), ⟨by dsimp only; omega, hkq, by dsimp only; rw [List.length_append]; simp; omega, fun n hn => ?_⟩, by dsimp only; omega, ?_⟩
         · rcases List.mem_append.1 hn with hn | hn
           · exact hW n hn
           · simp at hn; omega
         · dsimp only
           rw [map_snoc, sl_app, ob_app]
           refine back [0, 1, 4] rfl rfl ?_ ?_
           · repeat' (first | exact trivial | exact rfl | refine And.intro ?_ ?_)
           · repeat' (first | exact trivial | exact rfl | refine And.intro ?_ ?_))
  obtain rfl : i = C.length := by omega
  have hWi : ∀ i, i < C.length → ∃ w, W[i]? = some w ∧ 1 ≤ w ∧ w ≤ 1000 := fun i hi => ⟨W[i]'(by omega), List.getElem?_eq_getElem _, hW _ (List.getElem_mem _)⟩
  refine forceH_in ?_
  refine ghost_seq (Γ' := [(0, .ptr 0 2 0 0), (2, vint .i64 R), (4, .ptr 1 4 0 0), (7, .pv (.sl 1 (W.map intRow))), (8, vint .i64 C.length)]) (H' := [dice t k, evM C PR]) (Ghost.sl (s := 7) (id := 2) rfl rfl fun H' hl hH => back [0, 1] rfl rfl ⟨hH 0 (by decide), hH 1 (by decide), trivial⟩ (by repeat' (first | exact trivial | exact rfl | refine And.intro ?_ ?_))) ?_
  dsimp only [evM]
  repeat' (first | refine o1 ?_ | refine o2 ?_ | refine k1 ?_ | refine k2 ?_ | refine k3 ?_ | refine k4 ?_ | refine k8 ?_ | refine And.intro ?_ ?_ | (intro h; first | exact Bool.noConfusion h | exact nz _ h | exact nl h | (simp at h; done) | (simp at h; first | (exfalso; omega) | skip) | skip) | refine eqv_len_map ?_ | fail)
  refine loop_for (fun z : Nat × Nat × List Count => [(0, .ptr 0 2 0 0), (2, vint .i64 R), (4, .ptr 1 4 0 0), (7, .pv (.sl 1 (W.map intRow))), (9, slP 2 4 (z.2.2.map Count.row)), (10, vint .i64 z.1)])
    (fun z => [dice t z.2.1, evM C PR, obP 78 4 (z.2.2.map Count.row)])
    (fun z => z.1 ≤ 2 ∧ z.2.1 ≤ t.length ∧ z.2.2.length ≤ z.1 * 3 ∧ ∀ c ∈ z.2.2, CtQ C 2 c) (fun z => 2 - z.1) (0, k, []) ⟨Nat.zero_le _, hk, by simp, fun n h => absurd h List.not_mem_nil⟩ ?_ ?_
  · exact back [0, 1, 2] rfl rfl (by repeat' (first | exact trivial | exact rfl | refine And.intro ?_ ?_)) (by repeat' (first | exact trivial | exact rfl | refine And.intro ?_ ?_))
  rintro ⟨tt, k, L⟩ ⟨htt, hk, hLl, hL⟩
  dsimp only at htt hk hLl hL ⊢
  dsimp only [evM]
  rcases Nat.lt_or_ge tt 2 with hlt | hge2
  · repeat' (first | ((change vcFun _ _ _ _ _; refine call_mcost 0 rfl (by assumption) (by assumption) ?_; intro cn kc hcn hkc)) | (refine fh_ob ?_) | refine o1 ?_ | refine o2 ?_ | refine k1 ?_ | refine k2 ?_ | refine k3 ?_ | refine k4 ?_ | refine k6 ?_ | refine And.intro ?_ ?_ | (intro h; first | exact Bool.noConfusion h | exact nz _ h | exact nl h | (simp at h; done) | (simp at h; first | (exfalso; omega) | skip) | skip) | (change vcFun _ _ _ _ _; refine call_next 0 rfl (by assumption) (by assumption) (by omega) (by omega) ?_; intro v kq hv1 hv2 hkq) | fail)
    have hpe := pen_ok hcn
    generalize (bif true then if cn > 1 then cn else 1 else if cn < 1 then cn else 1) = pe at *
    rename_i k0 _
    have hmo := hv1
    have hmo2 := hv2
    generalize v = mo at *
    generalize hkk : kc = k at *
    have hk := hkc
    refine loop_for (fun z : Nat × List Count => [(0, .ptr 0 2 0 0), (2, vint .i64 R), (4, .ptr 1 4 0 0), (7, .pv (.sl 1 (W.map intRow))), (9, slP 2 4 (z.2.map Count.row)), (10, vint .i64 tt), (11, vint .i64 mo), (12, vint .i64 pe), (13, vint .i64 z.1)])
      (fun z => [dice t k, evM C PR, obP 78 4 (z.2.map Count.row)])
      (fun z => z.1 ≤ R ∧ z.2.length ≤ tt * 3 + z.1 ∧ ∀ c ∈ z.2, CtQ C 2 c) (fun z => R - z.1) (0, L) ⟨Nat.zero_le _, hLl, hL⟩ ?_ ?_
    · exact back [0, 1, 2] rfl rfl (by repeat' (first | exact trivial | exact rfl | refine kept_ob rfl ?_ | refine And.intro ?_ ?_)) (by repeat' (first | exact trivial | exact rfl | exact ren_get rfl | refine And.intro ?_ ?_))
    rintro ⟨r, L⟩ ⟨hr, hLl, hL⟩
    dsimp only at hr hLl hL ⊢
    dsimp only [evM]
    rcases Nat.lt_or_ge r R with hrl | hrg
    · repeat' (first | (refine fh_ob ?_) | refine o1 ?_ | refine o2 ?_ | refine k1 ?_ | refine k2 ?_ | refine k3 ?_ | refine k4 ?_ | refine k6 ?_ | refine And.intro ?_ ?_ | (intro h; first | exact Bool.noConfusion h | exact nz _ h | exact nl h | (simp at h; done) | (simp at h; first | (exfalso; omega) | skip) | skip) | exact (by kernel_rfl : drawOk _ _ = true) | fail)
      refine loop_for (fun z : Nat × List Load => [(0, .ptr 0 2 0 0), (2, vint .i64 R), (4, .ptr 1 4 0 0), (7, .pv (.sl 1 (W.map intRow))), (9, slP 2 4 (L.map Count.row)), (10, vint .i64 tt), (11, vint .i64 mo), (12, vint .i64 pe), (13, vint .i64 r), (14, .ptr 3 4 0 0), (15, vint .i64 z.1)])
        (fun z => [dice t k, evM C PR, obP 78 4 (L.map Count.row), evC (slP 4 3 (z.2.map Load.row)) mo pe, obP 102 3 (z.2.map Load.row)])
        (fun z => z.1 ≤ C.length ∧ z.2.length ≤ z.1 * 7 ∧ LdQ C z.2 z.1 0) (fun z => C.length - z.1) (0, []) ⟨Nat.zero_le _, Nat.le_refl _, LdQ.nil⟩ ?_ ?_
      · exact back [0, 1, 2, 3, 4] rfl rfl (by repeat' (first | exact trivial | exact rfl | refine kept_ob rfl ?_ | refine kept_bx ren_bx1 rfl ?_ | refine And.intro ?_ ?_)) (by repeat' (first | exact trivial | exact rfl | exact ren_get rfl | refine And.intro ?_ ?_))
      rintro ⟨i, D⟩ ⟨hi, hDl, hD⟩
      dsimp only at hi hDl hD ⊢
      dsimp only [evM, evC]
      rcases Nat.lt_or_ge i C.length with hil | hig
      · obtain ⟨la, hla⟩ := getE hil
        have hla7 := hl la (List.mem_of_getElem? hla)
        obtain ⟨w, hw, hw1, hw2⟩ := hWi i hil
        repeat' (first | (refine fh_ob ?_) | refine o1 ?_ | refine o2 ?_ | refine k1 ?_ | refine k2 ?_ | refine k3 ?_ | refine k4 ?_ | refine k6 ?_ | refine And.intro ?_ ?_ | (intro h; first | exact Bool.noConfusion h | exact nz _ h | exact nl h | (simp at h; done) | (simp at h; first | (exfalso; omega) | skip) | skip) | refine eqv_len_map ?_ | fail)
        refine loop_for (fun z : Nat × List Load => [(0, .ptr 0 2 0 0), (2, vint .i64 R), (4, .ptr 1 4 0 0), (7, .pv (.sl 1 (W.map intRow))), (9, slP 2 4 (L.map Count.row)), (10, vint .i64 tt), (11, vint .i64 mo), (12, vint .i64 pe), (13, vint .i64 r), (14, .ptr 3 4 0 0), (15, vint .i64 i), (16, vint .i64 z.1)])
          (fun z => [dice t k, evM C PR, obP 78 4 (L.map Count.row), evC (slP 4 3 (z.2.map Load.row)) mo pe, obP 102 3 (z.2.map Load.row)])
          (fun z => z.1 ≤ la.length ∧ z.2.length ≤ i * 7 + z.1 ∧ LdQ C z.2 i z.1) (fun z => la.length - z.1) (0, D) ⟨Nat.zero_le _, hDl, hD⟩ ?_ ?_
        · exact back [0, 1, 2, 3, 4] rfl rfl (by repeat' (first | exact trivial | exact rfl | refine kept_ob rfl ?_ | refine kept_bx ren_bx1 rfl ?_ | refine And.intro ?_ ?_)) (by repeat' (first | exact trivial | exact rfl | exact ren_get rfl | refine And.intro ?_ ?_))
        rintro ⟨j, D⟩ ⟨hj, hDl, hD⟩
        dsimp only at hj hDl hD ⊢
        dsimp only [evM, evC]
        have hb1 : ((D.map Load.row).length + 1) * 24 ≤ 140737488355328 := by rw [List.length_map]; omega
        have hb2 : (D.map Load.row).length + 1 ≤ 9223372036854775807 := by rw [List.length_map]; omega
        rcases Nat.lt_or_ge j la.length with hjl | hjg
        · obtain ⟨o, ho⟩ := getE hjl
          repeat' (first | (refine fv_sl ?_) | (refine fh_ob ?_) | (refine idx_sl (k := i) (at_map hla) rfl ?_) | (refine idx_sl (k := i) (at_map hw) rfl ?_) | (refine idx_sl (k := j) (at_map ho) rfl ?_) | ((refine o_appD rfl rfl rfl rfl rfl rfl rfl rfl rfl rfl rfl hb1 hb2 ?_)) | refine o1 ?_ | refine o2 ?_ | refine k1 ?_ | refine k2 ?_ | refine k3 ?_ | refine k4 ?_ | refine k6 ?_ | refine And.intro ?_ ?_ | refine o3 ?_ | refine o4 ?_ | (intro h; first | exact Bool.noConfusion h | exact nz _ h | exact nl h | (simp at h; done) | (simp at h; first | (exfalso; omega) | skip) | skip) | exact (by kernel_rfl : drawOk _ _ = true) | refine eqv_len_map ?_ | refine eqv_wrap (by omega) (by omega) ?_ | fail)
          all_goals first
            | (exfalso; omega)
            | (refine ⟨(j + 1, D ++ [⟨i, j, w⟩]), ⟨by dsimp only; omega, by dsimp only; rw [List.length_append]; simp only [List.length_cons, List.length_nil]; omega, by dsimp only; exact hD.app hla hjl ⟨hw1, hw2⟩⟩, by dsimp only; omega, ?_⟩
               dsimp only
               rw [map_snoc, sl_app, ob_app]
               refine back [0, 1, 2, 3, 7] rfl rfl ?_ ?_
               · repeat' (first | exact trivial | exact rfl | refine kept_ob rfl ?_ | refine And.intro ?_ ?_)
               · repeat' (first | exact trivial | exact rfl | exact ren_get rfl | refine And.intro ?_ ?_))
            | (refine ⟨(j + 1, D), ⟨by dsimp only; omega, by dsimp only; omega, hD.skip⟩, by dsimp only; omega, ?_⟩
               dsimp only
               refine back [0, 1, 2, 3, 4] rfl rfl ?_ ?_
               · repeat' (first | exact trivial | exact rfl | refine kept_ob rfl ?_ | refine kept_bx ren_bx1 rfl ?_ | refine And.intro ?_ ?_)
               · repeat' (first | exact trivial | exact rfl | exact ren_get rfl | refine And.intro ?_ ?_))
        · obtain rfl : j = la.length := by omega
          repeat' (first | (refine fh_ob ?_) | (refine idx_sl (k := i) (at_map hla) rfl ?_) | refine o1 ?_ | refine o2 ?_ | refine k1 ?_ | refine k2 ?_ | refine k3 ?_ | refine k8 ?_ | refine And.intro ?_ ?_ | (intro h; first | exact Bool.noConfusion h | exact nz _ h | exact nl h | (simp at h; done) | (simp at h; first | (exfalso; omega) | skip) | skip) | refine eqv_len_map ?_ | refine eqv_wrap (by omega) (by omega) ?_ | fail)
          all_goals first
            | (exfalso; omega)
            | (refine ⟨(i + 1, D), ⟨by dsimp only; omega, by dsimp only; omega, hD.next⟩, by dsimp only; omega, ?_⟩
               dsimp only
               refine back [0, 1, 2, 3, 4] rfl rfl ?_ ?_
               · repeat' (first | exact trivial | exact rfl | refine kept_ob rfl ?_ | refine kept_bx ren_bx1 rfl ?_ | refine And.intro ?_ ?_)
               · repeat' (first | exact trivial | exact rfl | exact ren_get rfl | refine And.intro ?_ ?_))
      · obtain rfl : i = C.length := by omega
        have hb1 : ((L.map Count.row).length + 1) * 48 ≤ 140737488355328 := by rw [List.length_map]; omega
        have hb2 : (L.map Count.row).length + 1 ≤ 9223372036854775807 := by rw [List.length_map]; omega
        refine forceH_in ?_
        refine ghost_seq (Γ' := [(0, .ptr 0 2 0 0), (2, vint .i64 R), (4, .ptr 1 4 0 0), (7, .pv (.sl 1 (W.map intRow))), (9, slP 2 4 (L.map Count.row)), (10, vint .i64 tt), (11, vint .i64 mo), (12, vint .i64 pe), (13, vint .i64 r), (14, .ptr 3 4 0 0), (15, vint .i64 C.length)]) (H' := [dice t k, evM C PR, obP 78 4 (L.map Count.row), evC (.pv (.sl 3 (D.map Load.row))) mo pe]) (Ghost.shut_sl (i := 3) (c := 1) (id := 4) rfl rfl rfl (by decide) fun H' hl h2 hH => back [0, 1, 2, 3] rfl rfl ?_ ?_) ?_
        · exact ⟨hH 0 (by decide) (by decide), hH 1 (by decide) (by decide), kept_ob (hH 2 (by decide) (by decide)) ⟨h2, trivial⟩⟩
        · repeat' (first | exact trivial | exact rfl | exact ren_get rfl | refine And.intro ?_ ?_)
        dsimp only [evM, evC]
        repeat' (first | (refine fv_sl ?_) | (refine fh_ob ?_) | ((refine o_app rfl rfl rfl rfl rfl rfl rfl rfl rfl rfl rfl hb1 hb2 ?_)) | refine o1 ?_ | refine o2 ?_ | refine k1 ?_ | refine k2 ?_ | refine k3 ?_ | refine k8 ?_ | refine And.intro ?_ ?_ | (intro h; first | exact Bool.noConfusion h | exact nz _ h | exact nl h | (simp at h; done) | (simp at h; first | (exfalso; omega) | skip) | skip) | refine eqv_len_map ?_ | refine eqv_wrap (by omega) (by omega) ?_ | fail)
        all_goals first
          | (exfalso; omega)
          | (refine ⟨(r + 1, L ++ [⟨1, D, mo, pe⟩]), ⟨by dsimp only; omega, by dsimp only; rw [List.length_append]; simp only [List.length_cons, List.length_nil]; omega, by dsimp only; exact all_app hL ⟨⟨⟨by dsimp only; omega, by dsimp only; omega⟩, hmo, by dsimp only; omega, hpe, hD.at_⟩, by dsimp only; omega⟩⟩, by dsimp only; omega, ?_⟩
             dsimp only
             rw [map_snoc, sl_app, ob_app]
             refine back [0, 1, 5] rfl rfl ?_ ?_
             · repeat' (first | exact trivial | exact rfl | refine And.intro ?_ ?_)
             · repeat' (first | exact trivial | exact rfl | refine And.intro ?_ ?_))
    · obtain rfl : r = R := by omega
      repeat' (first | (refine fh_ob ?_) | refine o1 ?_ | refine o2 ?_ | refine k1 ?_ | refine k2 ?_ | refine k3 ?_ | refine k8 ?_ | refine And.intro ?_ ?_ | (intro h; first | exact Bool.noConfusion h | exact nz _ h | exact nl h | (simp at h; done) | (simp at h; first | (exfalso; omega) | skip) | skip) | refine eqv_wrap (by omega) (by omega) ?_ | fail)
      all_goals first
        | (exfalso; omega)
        | (refine ⟨(tt + 1, k, L), ⟨by dsimp only; omega, hk, by dsimp only; omega, hL⟩, by dsimp only; omega, ?_⟩
           dsimp only
           refine back [0, 1, 2] rfl rfl ?_ ?_
           · repeat' (first | exact trivial | exact rfl | refine kept_ob rfl ?_ | refine And.intro ?_ ?_)
           · repeat' (first | exact trivial | exact rfl | exact ren_get rfl | refine And.intro ?_ ?_))
  obtain rfl : tt = 2 := by omega
  refine forceH_in ?_
  refine ghost_seq (Γ' := [(0, .ptr 0 2 0 0), (9, .pv (.sl 4 (L.map Count.row))), (10, vint .i64 2)]) (H' := [dice t k]) (Ghost.sl (s := 9) (id := 2) rfl rfl fun H' hl hH => back [0] rfl rfl ⟨hH 0 (by decide), trivial⟩ (by repeat' (first | exact trivial | exact rfl | refine And.intro ?_ ?_))) ?_
  repeat' (first | refine o1 ?_ | refine o2 ?_ | refine k1 ?_ | refine k2 ?_ | refine k3 ?_ | refine k7 ?_ | refine k8 ?_ | refine And.intro ?_ ?_ | (intro h; first | exact Bool.noConfusion h | exact nz _ h | exact nl h | (simp at h; done) | (simp at h; first | (exfalso; omega) | skip) | skip) | fail)
  exact ret_obj [0] [dice t k] rfl rfl (by repeat' (first | exact trivial | exact rfl | refine And.intro ?_ ?_)) (r' := .pv (.sl 4 (L.map Count.row))) rfl ⟨L, k, hk, by omega, hL, rfl, rfl⟩
end Go.Proofs.YtihpjcmloecaaaaGreat.Cw
/-
  Made models: the walk, classes.
-/
namespace Go.Proofs.YtihpjcmloecaaaaGreat.Cw
open Go.Cw Go.Proofs
set_option linter.unusedVariables false
set_option maxRecDepth 100000
set_option maxHeartbeats 30000000
end Go.Proofs.YtihpjcmloecaaaaGreat.Cw
/-
  Made models: the walk, pairs.
-/
namespace Go.Proofs.YtihpjcmloecaaaaGreat.Cw
open Go.Cw Go.Proofs
set_option linter.unusedVariables false
set_option maxRecDepth 100000
set_option maxHeartbeats 30000000
end Go.Proofs.YtihpjcmloecaaaaGreat.Cw
/-
  Made models: the walk, counts.
-/
namespace Go.Proofs.YtihpjcmloecaaaaGreat.Cw
open Go.Cw Go.Proofs
set_option linter.unusedVariables false
set_option maxRecDepth 100000
set_option maxHeartbeats 30000000
end Go.Proofs.YtihpjcmloecaaaaGreat.Cw
/-
  Made models: the walk.
-/
namespace Go.Proofs.YtihpjcmloecaaaaGreat.Cw
open Go.Cw Go.Proofs
set_option linter.unusedVariables false
set_option maxRecDepth 100000
set_option maxHeartbeats 30000000
end Go.Proofs.YtihpjcmloecaaaaGreat.Cw
