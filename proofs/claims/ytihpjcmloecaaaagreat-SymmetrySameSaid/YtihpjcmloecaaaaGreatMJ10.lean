/-
  Part 10 of the proof (SM1, SM2, SM3, SC6, SM4, FSS): what later parts use. No conditions.
-/
import Derived.Test.YtihpjcmloecaaaaGreatRows
import Derived.WalkKit
import Derived.ProofKit
import Derived.OpenShut
import Derived.Test.YtihpjcmloecaaaaGreatMJ8
/-
  Symmetry, plain: plans that arise from each other have the same canonical plan, which arises from them.
-/
namespace Go.Proofs.YtihpjcmloecaaaaGreat.Cw
open Go Go.Cw Go.Proofs
set_option linter.unusedVariables false
theorem plan_iff {m : Model} {p : List Int} : plannedP m p ↔ isPlanP m p := by
  constructor
  · rintro ⟨h1, h2⟩
    refine ⟨h1, fun j hj o l ho hl => ?_⟩
    rcases h2 j hj o ho with rfl | ⟨_, h3, l', h4, h5⟩
    · omega
    · rw [Int.toNat_natCast, hl] at h4; cases h4; omega
  · rintro ⟨h1, h2⟩
    refine ⟨h1, fun j hj o ho => ?_⟩
    obtain ⟨l, hl⟩ := getE (l := m.classes) (i := j) (by omega)
    have := h2 j hj o l ho hl
    by_cases h : o = -1
    · exact .inl h
    · exact .inr ⟨by omega, by omega, l, by rw [Int.toNat_natCast]; exact hl, this.2⟩
theorem sw_tr {m : Model} (hz : sizedP m) (hg : goodP m) {a b c : Int} (h1 : a ≠ b) (h2 : b ≠ c) (h3 : a ≠ c) (hab : swapP m a b) (hbc : swapP m b c) : swapP m a c :=
  swap_trans hz hg h3 h1 (fun e => h2 e.symm) hab (swapP_symm hbc)
theorem sets_all {m : Model} (hz : sizedP m) (hg : goodP m) : ∀ {n : Nat} {l : List Int}, l.length ≤ n → l.Nodup → ∀ {a b : Int}, a ∈ l → b ∈ l → a ≠ b → swapP m a b → ∃ s ∈ setsF m n l, a ∈ s ∧ b ∈ s
  | 0, l, hn, _, a, b, ha, _, _, _ => by
    obtain rfl : l = [] := List.eq_nil_of_length_eq_zero (by omega)
    exact absurd ha List.not_mem_nil
  | n + 1, [], _, _, a, b, ha, _, _, _ => absurd ha List.not_mem_nil
  | n + 1, x :: l, hn, hnd, a, b, ha, hb, hab, hs => by
    obtain ⟨hx, hl⟩ := List.nodup_cons.1 hnd
    have step : ∀ {u v : Int}, u ≠ v → swapP m u v → (u = x ∨ swapP m x u) → (v = x ∨ swapP m x v) := fun {u v} huv hsw h => by
      by_cases ev : v = x
      · exact .inl ev
      right
      rcases h with rfl | h
      · exact hsw
      · by_cases e : x = u
        · subst e; exact hsw
        · exact sw_tr hz hg e huv (fun e => ev e.symm) h hsw
    have memF : ∀ {u : Int}, u ∈ x :: l → (u = x ∨ swapP m x u) → u ≠ x → u ∈ l.filter (swB m x) := fun {u} hu h hne => by
      rcases List.mem_cons.1 hu with e | hu
      · exact absurd e hne
      · exact List.mem_filter.2 ⟨hu, sw_iff.2 (h.elim (fun e => absurd e hne) id)⟩
    have memS : ∀ {u : Int}, u ∈ x :: l → (u = x ∨ swapP m x u) → u ∈ x :: l.filter (swB m x) := fun {u} hu h => by
      by_cases e : u = x
      · rw [e]; exact List.mem_cons_self ..
      · exact List.mem_cons_of_mem _ (memF hu h e)
    unfold setsF
    by_cases hax : a = x ∨ swapP m x a
    · have hbx := step hab hs hax
      have hne : l.filter (swB m x) ≠ [] := fun e => by
        by_cases ea : a = x
        · have := memF hb hbx (fun eb => hab (ea.trans eb.symm)); rw [e] at this; exact absurd this List.not_mem_nil
        · have := memF ha hax ea; rw [e] at this; exact absurd this List.not_mem_nil
      refine ⟨x :: l.filter (swB m x), List.mem_append.2 (.inl ?_), memS ha hax, memS hb hbx⟩
      rw [if_neg hne]; exact List.mem_singleton.2 rfl
    · have hbx : ¬ (b = x ∨ swapP m x b) := fun h => hax (step (fun e => hab e.symm) (swapP_symm hs) h)
      have hin : ∀ {u : Int}, u ∈ x :: l → ¬ (u = x ∨ swapP m x u) → u ∈ l.filter fun b => !swB m x b := fun {u} hu h => by
        rcases List.mem_cons.1 hu with e | hu
        · exact absurd (.inl e) h
        · refine List.mem_filter.2 ⟨hu, ?_⟩
          cases hb : swB m x u with
          | true => exact absurd (.inr (sw_iff.1 hb)) h
          | false => rfl
      have hfl := List.length_filter_le (fun b => !swB m x b) l
      rw [List.length_cons] at hn
      obtain ⟨s, h1, h2⟩ := sets_all hz hg (n := n) (by omega) (List.Pairwise.filter _ hl) (hin ha hax) (hin hb hbx) hab hs
      exact ⟨s, List.mem_append.2 (.inr h1), h2⟩
noncomputable def plF (m : Model) (p : List Int) (f : Int → Int) : List Int := (List.range p.length).map fun (c : Nat) => (match p[c]?, m.classes[c]? with
  | some o, some l => if o < 0 then -1 else imgI (imgO l o.toNat (f (rmAt m p c)))
  | _, _ => -1 : Int)
section
variable {m : Model} {p : List Int}
theorem plF_len {f : Int → Int} : (plF m p f).length = p.length := by unfold plF; rw [List.length_map, List.length_range]
theorem plF_neg {f : Int → Int} {c : Nat} {o : Int} {l : List Opt} (ho : p[c]? = some o) (hl : m.classes[c]? = some l) (h : o < 0) : (plF m p f)[c]? = some (-1) := by
  unfold plF
  rw [List.getElem?_map, List.getElem?_range (List.getElem?_eq_some_iff.1 ho).1, Option.map_some, ho, hl]
  dsimp only; rw [if_pos h]
theorem plF_at {f : Int → Int} {c o : Nat} {l : List Opt} {q : Opt} (ho : p[c]? = some (o : Int)) (hl : m.classes[c]? = some l) (hq : l[o]? = some q) : (plF m p f)[c]? = some (imgI (imgO l o (f q.place.room))) := by
  unfold plF
  rw [List.getElem?_map, List.getElem?_range (List.getElem?_eq_some_iff.1 ho).1, Option.map_some, rm_pos ho hl hq, ho, hl]
  dsimp only; rw [if_neg (by omega), Int.toNat_natCast]
theorem plan_ext {x y : List Int} (hx : x.length = p.length) (hy : y.length = p.length) (hp : isPlanP m p) (hn : ∀ (c : Nat) (l : List Opt) (o : Int), p[c]? = some o → m.classes[c]? = some l → o < 0 → x[c]? = y[c]?)
    (hs : ∀ (c o : Nat) (l : List Opt) (q : Opt), p[c]? = some (o : Int) → m.classes[c]? = some l → l[o]? = some q → x[c]? = y[c]?) : x = y := by
  apply List.ext_getElem?
  intro c
  rcases Nat.lt_or_ge c p.length with h | h
  · obtain ⟨o, ho⟩ := getE h
    obtain ⟨l, hl⟩ := getE (l := m.classes) (i := c) (by have := hp.1; omega)
    have := hp.2 c h o l ho hl
    by_cases h0 : o < 0
    · exact hn c l o ho hl h0
    · obtain ⟨n, rfl⟩ := Int.eq_ofNat_of_zero_le (show 0 ≤ o by omega)
      obtain ⟨q, hq⟩ := getE (l := l) (i := n) (by omega)
      exact hs c n l q ho hl hq
  · rw [List.getElem?_eq_none (by omega), List.getElem?_eq_none (by omega)]
theorem plan_neg (hp : isPlanP m p) {c : Nat} {l : List Opt} {o : Int} (ho : p[c]? = some o) (hl : m.classes[c]? = some l) (h : o < 0) : o = -1 := by
  have := hp.2 c (List.getElem?_eq_some_iff.1 ho).1 o l ho hl; omega
theorem plF_id (hp : isPlanP m p) : plF m p id = p := by
  refine plan_ext plF_len rfl hp (fun c l o ho hl h => ?_) fun c o l q ho hl hq => ?_
  · rw [plF_neg ho hl h, ho, plan_neg hp ho hl h]
  · rw [plF_at ho hl hq, ho]
    show some (imgI (imgO l o q.place.room)) = _
    rw [img_self hq]; rfl
def KeepS (S : List (List Int)) (f : Int → Int) : Prop := (∀ s ∈ S, ∀ r ∈ s, f r ∈ s) ∧ ∀ r, (∀ s ∈ S, r ∉ s) → f r = r
theorem keep_img {R : List Int} {S : List (List Int)} (ok : SetsOk m R S) {f : Int → Int} (hf : KeepS S f) {l : List Opt} (hl : l ∈ m.classes) {o : Nat} {q : Opt} (hq : l[o]? = some q) : ∃ j, imgO l o (f q.place.room) = some j := by
  by_cases h : ∃ s ∈ S, q.place.room ∈ s
  · obtain ⟨s, hs, hr⟩ := h
    exact img_set ok hs (hf.1 s hs _ hr) hl hq hr
  · rw [hf.2 _ fun s hs hr => h ⟨s, hs, hr⟩]; exact ⟨o, img_self hq⟩
theorem plF_plan {R : List Int} {S : List (List Int)} (ok : SetsOk m R S) {f : Int → Int} (hf : KeepS S f) (hp : isPlanP m p) : isPlanP m (plF m p f) := by
  refine ⟨by rw [plF_len]; exact hp.1, fun c hc o l ho hl => ?_⟩
  rw [plF_len] at hc
  obtain ⟨o', ho'⟩ := getE hc
  have hb := hp.2 c hc o' l ho' hl
  by_cases h0 : o' < 0
  · rw [plF_neg ho' hl h0] at ho; injection ho with ho; omega
  · obtain ⟨n, rfl⟩ := Int.eq_ofNat_of_zero_le (show 0 ≤ o' by omega)
    obtain ⟨q, hq⟩ := getE (l := l) (i := n) (by omega)
    obtain ⟨j, hj⟩ := keep_img ok hf (List.mem_of_getElem? hl) hq
    rw [plF_at ho' hl hq, hj] at ho
    have := img_lt hj
    injection ho with ho
    unfold imgI at ho
    simp only [Option.getD_some] at ho
    omega
theorem plF_swap {R : List Int} {S : List (List Int)} (ok : SetsOk m R S) {f : Int → Int} (hf : KeepS S f) (hp : isPlanP m p) {a b : Int} : imgP m a b (plF m p f) = plF m p fun r => exch (f r) a b := by
  refine plan_ext (by rw [imgP_len, plF_len]) plF_len hp (fun c l o ho hl h => ?_) fun c o l q ho hl hq => ?_
  · rw [imgP_at (plF_neg ho hl h) hl, plF_neg ho hl h]; rfl
  · obtain ⟨j, hj⟩ := keep_img ok hf (List.mem_of_getElem? hl) hq
    have h1 := plF_at (f := f) ho hl hq
    rw [hj] at h1
    rw [imgP_at h1 hl, plF_at ho hl hq]
    have hji : imgI (some j) = (j : Int) := rfl
    rw [hji, if_neg (by omega), Int.toNat_natCast]
    obtain ⟨qj, hqj⟩ := getE (img_lt hj)
    have hr := img_room hj hqj
    have e : swapO l a b j = imgO l o (exch (f q.place.room) a b) := by rw [swap_of hqj rfl, hr, img_comp hj]
    unfold imN imgI
    rw [e]
end
end Go.Proofs.YtihpjcmloecaaaaGreat.Cw
/-
  Symmetry, plain: the canonical plan arises by exchanges.
-/
namespace Go.Proofs.YtihpjcmloecaaaaGreat.Cw
open Go Go.Cw Go.Proofs
set_option linter.unusedVariables false
inductive Reach (m : Model) (p : List Int) : List Int → Prop where
  | refl : Reach m p p
  | step {q : List Int} {a b : Int} (h : Reach m p q) (hab : a ≠ b) (hs : swapP m a b) : Reach m p (imgP m a b q)
theorem Reach.plan {m : Model} {p q : List Int} (h : Reach m p q) (hp : isPlanP m p) : isPlanP m q := by
  induction h with
  | refl => exact hp
  | step h hab hs ih => exact plan_iff.1 (imgP_planned hs.1 (plan_iff.2 ih))
theorem Reach.cost {m : Model} {p q : List Int} (h : Reach m p q) (hg : goodP m) (hp : isPlanP m p) : costV m q = costV m p := by
  induction h with
  | refl => rfl
  | step h hab hs ih => rw [(cost_img hg hs (plan_iff.2 (h.plan hp))).2, ih]
def FE (E : List (Int × Int)) : Int → Int := E.foldl (fun f e => fun r => exch (f r) (f e.1) e.2) id
theorem FE_nil : FE [] = id := rfl
theorem FE_snoc {E : List (Int × Int)} {e : Int × Int} : FE (E ++ [e]) = fun r => exch (FE E r) (FE E e.1) e.2 := by unfold FE; rw [List.foldl_append]; rfl
theorem exch_same {r a : Int} : exch r a a = r := by unfold exch; split <;> (try split) <;> omega
theorem CanI.init {S : List (List Int)} {E : List (Int × Int)} {e : Int × Int} (h : CanI S (E ++ [e])) : CanI S E ∧ (∀ f ∈ E, f.1 ≠ e.1 ∧ f.2 ≠ e.2) ∧ ∃ s ∈ S, e.1 ∈ s ∧ e.2 ∈ s := by
  obtain ⟨k1, _, k3⟩ := List.pairwise_append.1 h.keys
  obtain ⟨v1, _, v3⟩ := List.pairwise_append.1 h.vals
  exact ⟨⟨k1, v1, fun f hf => h.same f (List.mem_append.2 (.inl hf))⟩, fun f hf => ⟨k3 f hf e (List.mem_singleton.2 rfl), v3 f hf e (List.mem_singleton.2 rfl)⟩, h.same e (List.mem_append.2 (.inr (List.mem_singleton.2 rfl)))⟩
theorem snoc_ind {α : Type} {P : List α → Prop} (h0 : P []) (h1 : ∀ l x, P l → P (l ++ [x])) : ∀ l, P l := fun l => by
  have : ∀ k : List α, P k.reverse := fun k => by
    induction k with
    | nil => exact h0
    | cons x k ih => rw [List.reverse_cons]; exact h1 _ _ ih
  have := this l.reverse
  rwa [List.reverse_reverse] at this
theorem exch_mem {s : List Int} {r a b : Int} (hr : r ∈ s) (ha : a ∈ s) (hb : b ∈ s) : exch r a b ∈ s := by
  unfold exch; split
  · exact hb
  · split
    · exact ha
    · exact hr
section
variable {m : Model} {R : List Int} {S : List (List Int)} {p : List Int}
theorem FE_ok (ok : SetsOk m R S) : ∀ E : List (Int × Int), CanI S E → (∀ x y, FE E x = FE E y → x = y) ∧ KeepS S (FE E) ∧ ∀ e ∈ E, FE E e.1 = e.2 := by
  refine snoc_ind (fun _ => ⟨fun x y h => h, ⟨fun s _ r h => h, fun r _ => rfl⟩, fun e h => absurd h List.not_mem_nil⟩) fun E e ih h => ?_
  obtain ⟨hE, hne, s, hs, h1, h2⟩ := h.init
  obtain ⟨i1, i2, i3⟩ := ih hE
  rw [FE_snoc]
  have hf1 := i2.1 s hs _ h1
  refine ⟨fun x y hxy => i1 _ _ (exch_inj hxy), ⟨fun s' hs' r hr => ?_, fun r hr => ?_⟩, fun f hf => ?_⟩
  · have hfr := i2.1 s' hs' r hr
    show exch (FE E r) (FE E e.1) e.2 ∈ s'
    by_cases e0 : s' = s
    · subst e0; exact exch_mem hfr hf1 h2
    · have n1 : FE E r ≠ FE E e.1 := fun e => e0 (ok.same hs' hs (e ▸ hfr) hf1)
      have n2 : FE E r ≠ e.2 := fun e => e0 (ok.same hs' hs (e ▸ hfr) h2)
      rw [exch_n n1 n2]; exact hfr
  · show exch (FE E r) (FE E e.1) e.2 = r
    rw [i2.2 r hr]
    exact exch_n (fun e => hr s hs (e ▸ hf1)) (fun e => hr s hs (e ▸ h2))
  · show exch (FE E f.1) (FE E e.1) e.2 = f.2
    rcases List.mem_append.1 hf with hf | hf
    · obtain ⟨n1, n2⟩ := hne f hf
      have e1 := i3 f hf
      rw [e1]
      refine exch_n (fun e => ?_) n2
      rw [← e1] at e
      exact n1 (i1 _ _ e)
    · obtain rfl := List.mem_singleton.1 hf
      exact exch_a rfl
theorem FE_reach (ok : SetsOk m R S) (hp : isPlanP m p) : ∀ E : List (Int × Int), CanI S E → Reach m p (plF m p (FE E)) := by
  refine snoc_ind (fun _ => by rw [FE_nil, plF_id hp]; exact .refl) fun E e ih h => ?_
  obtain ⟨hE, hne, s, hs, h1, h2⟩ := h.init
  obtain ⟨_, i2, _⟩ := FE_ok ok E hE
  have hr := ih hE
  rw [FE_snoc, ← plF_swap ok i2 hp]
  by_cases e0 : FE E e.1 = e.2
  · have : imgP m (FE E e.1) e.2 (plF m p (FE E)) = plF m p (FE E) := by
      rw [plF_swap ok i2 hp, e0]
      exact congrArg _ (funext fun r => exch_same)
    rw [this]; exact hr
  · exact hr.step e0 (ok.sw s hs _ (i2.1 s hs _ h1) _ h2 e0)
theorem canS_grow (hpl : isPlanP m p) (ok : SetsOk m R S) (hR : ∀ x ∈ R, 0 ≤ x) {c : Nat} : ∀ {d : Nat}, c + d ≤ p.length → ∀ e ∈ (canS m p S c).2, e ∈ (canS m p S (c + d)).2
  | 0, _, e, he => he
  | d + 1, h, e, he => by
    have ih := canS_grow hpl ok hR (c := c) (d := d) (by omega) e he
    have hI := can_inv hpl ok hR (c := c + d) (by omega)
    rcases can_cases hpl ok hR (c := c + d) (by omega) hI with ⟨h1, _⟩ | ⟨o, l, q, s, t, _, _, _, _, _, _, _, _, _, _, h5⟩
    · show e ∈ (canS m p S (c + d + 1)).2
      rw [h1]; exact ih
    · show e ∈ (canS m p S (c + d + 1)).2
      rcases h5 with ⟨_, h6⟩ | ⟨_, _, h6, _⟩
      · rw [h6]; exact ih
      · rw [h6]; exact List.mem_append.2 (.inl ih)
theorem canL_eq (hpl : isPlanP m p) (ok : SetsOk m R S) (hR : ∀ x ∈ R, 0 ≤ x) : canL m p S = plF m p (FE (canS m p S p.length).2) := by
  have hE := can_inv hpl ok hR (Nat.le_refl _)
  obtain ⟨_, k2, k3⟩ := FE_ok ok _ hE
  refine plan_ext (canL_len hpl) plF_len hpl (fun c l o ho hl h => ?_) fun c o l q ho hl hq => ?_
  · have hc := (List.getElem?_eq_some_iff.1 ho).1
    rw [plF_neg ho hl h, canL_out hpl ok hR hc, ho, plan_neg hpl ho hl h]
    intro s hs hr
    rw [rm_neg ho hl h] at hr
    have := hR _ (ok.sub s hs _ hr); omega
  · have hc := (List.getElem?_eq_some_iff.1 ho).1
    have hI := can_inv hpl ok hR (c := c) (by omega)
    rcases can_cases hpl ok hR hc hI with ⟨_, h2, _⟩ | ⟨o', l', q', s, t, g1, g2, g3, g4, g5, g6, g7, g8, g9, g10, _⟩
    · rw [rm_pos ho hl hq] at h2
      rw [plF_at ho hl hq, canL_out hpl ok hR hc (by rw [rm_pos ho hl hq]; exact h2), k2.2 _ h2, img_self hq, ho]; rfl
    · rw [ho] at g1; rw [hl] at g2; cases g2
      have : o = o' := by injection g1 with g1; omega
      subst this
      rw [hq] at g3; cases g3
      have hm := to_some g9
      have hm2 := canS_grow hpl ok hR (c := c + 1) (d := p.length - (c + 1)) (by omega) _ hm
      rw [show c + 1 + (p.length - (c + 1)) = p.length by omega] at hm2
      have := k3 _ hm2
      rw [canL_at hc, g10, plF_at ho hl hq, this]
theorem canL_reach (hpl : isPlanP m p) (ok : SetsOk m R S) (hR : ∀ x ∈ R, 0 ≤ x) : Reach m p (canL m p S) := by
  rw [canL_eq hpl ok hR]
  exact FE_reach ok hpl _ (can_inv hpl ok hR (Nat.le_refl _))
end
end Go.Proofs.YtihpjcmloecaaaaGreat.Cw
/-
  Symmetry, plain: an exchange of rooms does not change the canonical plan.
-/
namespace Go.Proofs.YtihpjcmloecaaaaGreat.Cw
open Go Go.Cw Go.Proofs
set_option linter.unusedVariables false
def mapK (a b : Int) (E : List (Int × Int)) : List (Int × Int) := E.map fun e => (exch e.1 a b, e.2)
theorem toF_mapK {a b : Int} {E : List (Int × Int)} {r : Int} : toF (mapK a b E) (exch r a b) = toF E r := by
  unfold toF mapK
  rw [List.find?_map, Option.map_map]
  have : ((fun e : Int × Int => exch r a b == e.1) ∘ fun e : Int × Int => (exch e.1 a b, e.2)) = fun e => r == e.1 := by
    funext e
    show (exch r a b == exch e.1 a b) = (r == e.1)
    by_cases h : r = e.1
    · rw [h]; simp
    · rw [beq_eq_false_iff_ne.2 h, beq_eq_false_iff_ne.2 fun e' => h (exch_inj e')]
  rw [this]; rfl
theorem tk_mapK {a b : Int} {E : List (Int × Int)} {t : Int} : takenB (mapK a b E) t = takenB E t := by
  unfold takenB mapK
  rw [List.find?_map, Option.isSome_map]; rfl
theorem pick_fst {E : List (Int × Int)} {g : Int → Int} : ∀ {l : List Int} {b x y : Int}, b < 0 → (l.foldl (pickS E g) (b, x)).1 = (l.foldl (pickS E g) (b, y)).1
  | [], b, x, y, _ => rfl
  | t :: l, b, x, y, hb => by
    rw [List.foldl_cons, List.foldl_cons]
    cases ht : takenB E t
    · rw [pickS_put ht (.inl hb), pickS_put ht (.inl hb)]
    · rw [pickS_taken ht, pickS_taken ht]; exact pick_fst hb
section
variable {m : Model} {R : List Int} {S : List (List Int)} {p : List Int} {a b : Int}
theorem can_swap (hpl : isPlanP m p) (ok : SetsOk m R S) (hR : ∀ x ∈ R, 0 ≤ x) (hi : allImg m a b) {sa : List Int} (hsa : sa ∈ S) (ha : a ∈ sa) (hb : b ∈ sa) : ∀ {c : Nat}, c ≤ p.length →
    (canS m (imgP m a b p) S c).2 = mapK a b (canS m p S c).2 ∧ (∀ d, d + 1 = c → (canS m (imgP m a b p) S (d + 1)).1[d]? = (canS m p S (d + 1)).1[d]?)
  | 0, _ => ⟨rfl, fun d h => absurd h (by omega)⟩
  | c + 1, hc => by
    obtain ⟨ih, _⟩ := can_swap hpl ok hR hi hsa ha hb (c := c) (by omega)
    have hql : isPlanP m (imgP m a b p) := plan_iff.1 (imgP_planned hi (plan_iff.2 hpl))
    have hql2 : (imgP m a b p).length = p.length := imgP_len
    have hIp := can_inv hpl ok hR (c := c) (by omega)
    have hIq := can_inv hql ok hR (c := c) (by omega)
    have hcp := can_cases hpl ok hR (c := c) (by omega) hIp
    have hcq := can_cases hql ok hR (c := c) (by omega) hIq
    obtain ⟨o, ho⟩ := getE (show c < p.length by omega)
    obtain ⟨l, hl⟩ := getE (l := m.classes) (i := c) (by have := hpl.1; omega)
    have hqo := imgP_at (a := a) (b := b) ho hl
    have hob := hpl.2 c (by omega) o l ho hl
    suffices hh : (canS m (imgP m a b p) S (c + 1)).2 = mapK a b (canS m p S (c + 1)).2 ∧ (canS m (imgP m a b p) S (c + 1)).1[c]? = (canS m p S (c + 1)).1[c]? by
      refine ⟨hh.1, fun d hd => ?_⟩
      obtain rfl : d = c := by omega
      exact hh.2
    by_cases h0 : o < 0
    · have e1 : o = -1 := by omega
      rw [if_pos h0] at hqo
      have nop : ∀ {x : List Int}, x[c]? = some (-1 : Int) → rmAt m x c = -1 := fun h => rm_neg h hl (by decide)
      have hno : ∀ s ∈ S, (-1 : Int) ∉ s := fun s hs h => by have := hR _ (ok.sub s hs _ h); omega
      rw [e1] at ho
      rcases hcp with ⟨p1, p2, p3⟩ | ⟨_, _, _, s, _, _, _, _, hs, hr, hrm, _⟩
      · rcases hcq with ⟨q1, q2, q3⟩ | ⟨_, _, _, s, _, _, _, _, hs, hr, hrm, _⟩
        · rw [p1, q1]; exact ⟨ih, by rw [p3, q3, ho, hqo]⟩
        · rw [nop hqo] at hrm; exact absurd (hrm ▸ hr) (hno s hs)
      · rw [nop ho] at hrm; exact absurd (hrm ▸ hr) (hno s hs)
    · obtain ⟨n, rfl⟩ := Int.eq_ofNat_of_zero_le (show 0 ≤ o by omega)
      obtain ⟨x, hx⟩ := getE (l := l) (i := n) (by omega)
      rw [if_neg (by omega), Int.toNat_natCast] at hqo
      have hlm := List.mem_of_getElem? hl
      obtain ⟨j1, j2⟩ := ok_imN (hi l hlm n (by omega))
      generalize imN l a b n = j at *
      obtain ⟨y, hy⟩ := getE j2
      have hj : imgO l n (exch x.place.room a b) = some j := by rw [← swap_of hx rfl]; exact j1
      have hry : y.place.room = exch x.place.room a b := img_room hj hy
      have hcomp : ∀ u, imgO l j u = imgO l n u := fun u => img_comp hj
      have hrmp := rm_pos ho hl hx
      have hrmq := rm_pos hqo hl hy
      have hsets : ∀ s ∈ S, (x.place.room ∈ s ↔ y.place.room ∈ s) := fun s hs => by
        rw [hry]
        constructor
        · intro h
          unfold exch; split
          · rename_i e; rw [e] at h; rw [ok.same hs hsa h ha]; exact hb
          · split
            · rename_i _ e; rw [e] at h; rw [ok.same hs hsa h hb]; exact ha
            · exact h
        · intro h
          unfold exch at h; split at h
          · rename_i e; rw [e]; rw [ok.same hs hsa h hb]; exact ha
          · split at h
            · rename_i _ e; rw [e]; rw [ok.same hs hsa h ha]; exact hb
            · exact h
      rcases hcp with ⟨p1, p2, p3⟩ | ⟨o', l', x', s, t, g1, g2, g3, g4, g5, g6, g7, g8, g9, g10, g11⟩
      · rw [hrmp] at p2
        rcases hcq with ⟨q1, q2, q3⟩ | ⟨_, _, _, s, _, _, _, _, hs, hr, hrm, _⟩
        · have n1 : x.place.room ≠ a := fun e => p2 sa hsa (e ▸ ha)
          have n2 : x.place.room ≠ b := fun e => p2 sa hsa (e ▸ hb)
          rw [exch_n n1 n2, img_self hx] at hj
          injection hj with hj
          rw [p1, q1]; exact ⟨ih, by rw [p3, q3, ho, hqo, hj]⟩
        · rw [hrmq] at hrm
          exact absurd ((hsets s hs).2 (hrm ▸ hr)) (p2 s hs)
      · rw [ho] at g1; rw [hl] at g2; cases g2
        have e0 : n = o' := by injection g1 with g1; omega
        subst e0
        rw [hx] at g3; cases g3
        rcases hcq with ⟨q1, q2, q3⟩ | ⟨o2, l2, y2, s2, t2, k1, k2, k3, k4, k5, k6, k7, k8, k9, k10, k11⟩
        · rw [hrmq] at q2
          exact absurd ((hsets s g4).1 g5) (q2 s g4)
        · rw [hqo] at k1; rw [hl] at k2; cases k2
          have e0 : j = o2 := by injection k1 with k1; omega
          subst e0
          rw [hy] at k3; cases k3
          have es : s2 = s := ok.same k4 g4 k5 ((hsets s g4).1 g5)
          subst es
          rw [ih, hry] at k11
          rw [toF_mapK] at k11
          have hval : ∀ u, imgI (imgO l j u) = imgI (imgO l n u) := fun u => by rw [hcomp]
          have htt : t2 = t ∧ (canS m (imgP m a b p) S (c + 1)).2 = mapK a b (canS m p S (c + 1)).2 := by
            rcases g11 with ⟨g12, g13⟩ | ⟨g12, g13, g14, g15⟩
            · rcases k11 with ⟨k12, k13⟩ | ⟨k12, _⟩
              · rw [g12] at k12; injection k12 with k12
                exact ⟨k12.symm, by rw [k13, g13]⟩
              · rw [g12] at k12; cases k12
            · rcases k11 with ⟨k12, _⟩ | ⟨_, k13, k14, k15⟩
              · rw [g12] at k12; cases k12
              · have hfun : (pickS (mapK a b (canS m p S c).2) fun t => imgI (imgO l j t)) = pickS (canS m p S c).2 fun t => imgI (imgO l n t) := by
                  rw [show (fun t => imgI (imgO l j t)) = fun t => imgI (imgO l n t) from funext hval]
                  funext st u
                  unfold pickS
                  rw [tk_mapK]
                have e1 : t2 = t := by
                  rw [k15, g15, hfun]; exact pick_fst (by decide)
                refine ⟨e1, ?_⟩
                rw [k14, g14, e1]
                unfold mapK
                rw [List.map_append]; rfl
          refine ⟨htt.2, ?_⟩
          rw [k10, g10, htt.1, hval]
end
theorem used_iff {m : Model} {a : Int} : a ∈ roomsV m ↔ 0 ≤ a ∧ ∃ l ∈ m.classes, ∃ (i : Nat) (q : Opt), l[i]? = some q ∧ q.place.room = a := by
  rw [(rooms_spec m).1]
  unfold allR allL
  simp only [List.mem_flatMap, List.mem_map]
  constructor
  · rintro ⟨h0, l, hl, q, hq, e⟩
    obtain ⟨i, hi⟩ := List.getElem?_of_mem hq
    exact ⟨h0, l, hl, i, q, hi, e⟩
  · rintro ⟨h0, l, hl, i, q, hi, e⟩
    exact ⟨h0, l, hl, q, List.mem_of_getElem? hi, e⟩
theorem used_swap {m : Model} {a b : Int} (hi : allImg m a b) (hb : 0 ≤ b) (h : a ∈ roomsV m) : b ∈ roomsV m := by
  obtain ⟨h0, l, hl, i, q, hq, e⟩ := used_iff.1 h
  obtain ⟨j1, j2⟩ := ok_imN (hi l hl i (List.getElem?_eq_some_iff.1 hq).1)
  obtain ⟨y, hy⟩ := getE j2
  have hj : imgO l i b = some (imN l a b i) := by rw [← swap_of hq (exch_a e)]; exact j1
  exact used_iff.2 ⟨hb, l, hl, _, y, hy, img_room hj hy⟩
theorem canL_swap {m : Model} {p : List Int} {a b : Int} (hok : modelE m = 0) (hpl : isPlanP m p) (hab : a ≠ b) (ha : 0 ≤ a) (hb : 0 ≤ b) (hs : swapP m a b) : canL m (imgP m a b p) (setsV m) = canL m p (setsV m) := by
  have hz := model_sized hok
  have hg := model_good hok
  have ok := setsV_ok hok
  have hR : ∀ x ∈ roomsV m, 0 ≤ x := fun x hx => (((rooms_spec m).1 x).1 hx).1
  by_cases hu : a ∈ roomsV m
  · have hv := used_swap hs.1 hb hu
    obtain ⟨sa, h1, h2, h3⟩ : ∃ s ∈ setsV m, a ∈ s ∧ b ∈ s := by
      unfold setsV; rw [if_pos hok]
      exact sets_all hz hg (Nat.le_refl _) ((rooms_spec m).2.imp fun h => by omega) hu hv hab hs
    have hql : isPlanP m (imgP m a b p) := plan_iff.1 (imgP_planned hs.1 (plan_iff.2 hpl))
    have hql2 : (imgP m a b p).length = p.length := imgP_len
    apply List.ext_getElem?
    intro c
    rcases Nat.lt_or_ge c p.length with h | h
    · rw [canL_at (by rw [hql2]; exact h), canL_at h]
      exact (can_swap hpl ok hR hs.1 h1 h2 h3 (c := c + 1) h).2 c rfl
    · rw [List.getElem?_eq_none (by rw [canL_len hql, hql2]; exact h), List.getElem?_eq_none (by rw [canL_len hpl]; exact h)]
  · have hv : b ∉ roomsV m := fun h => hu (used_swap (swapP_symm hs).1 ha h)
    have e : imgP m a b p = p := by
      refine plan_ext imgP_len rfl hpl (fun c l o ho hl h => ?_) fun c o l q ho hl hq => ?_
      · rw [imgP_at ho hl, if_pos h, ho, plan_neg hpl ho hl h]
      · have hlm := List.mem_of_getElem? hl
        have n1 : q.place.room ≠ a := fun e => hu (used_iff.2 ⟨ha, l, hlm, o, q, hq, e⟩)
        have n2 : q.place.room ≠ b := fun e => hv (used_iff.2 ⟨hb, l, hlm, o, q, hq, e⟩)
        rw [imgP_at ho hl, if_neg (by omega), Int.toNat_natCast, ho]
        unfold imN
        rw [swap_of hq (exch_n n1 n2), img_self hq]; rfl
    rw [e]
theorem canL_of {m : Model} {p : List Int} (hok : modelE m = 0) (hpl : isPlanP m p) : canL m (canL m p (setsV m)) (setsV m) = canL m p (setsV m) := by
  have ok := setsV_ok hok
  have hR : ∀ x ∈ roomsV m, 0 ≤ x := fun x hx => (((rooms_spec m).1 x).1 hx).1
  have main : ∀ E : List (Int × Int), CanI (setsV m) E → canL m (plF m p (FE E)) (setsV m) = canL m p (setsV m) := by
    refine snoc_ind (fun _ => by rw [FE_nil, plF_id hpl]) fun E e ih h => ?_
    obtain ⟨hE, hne, s, hs, h1, h2⟩ := h.init
    obtain ⟨_, i2, _⟩ := FE_ok ok E hE
    rw [FE_snoc, ← plF_swap ok i2 hpl]
    by_cases e0 : FE E e.1 = e.2
    · have : imgP m (FE E e.1) e.2 (plF m p (FE E)) = plF m p (FE E) := by
        rw [plF_swap ok i2 hpl, e0]
        exact congrArg _ (funext fun r => exch_same)
      rw [this]; exact ih hE
    · have hf := i2.1 s hs _ h1
      rw [canL_swap hok (plF_plan ok i2 hpl) e0 (hR _ (ok.sub s hs _ hf)) (hR _ (ok.sub s hs _ h2)) (ok.sw s hs _ hf _ h2 e0)]
      exact ih hE
  have := main _ (can_inv hpl ok hR (Nat.le_refl _))
  rw [← canL_eq hpl ok hR] at this
  exact this
theorem canR_eq {m : Model} {p : List Int} (hok : modelE m = 0) (hp : isPlanP m p) : canE m p = 0 ∧ canR m p = canL m p (setsV m) := by
  have e1 : canE m p = 0 := by unfold canE; rw [if_pos hok, pB_t hp]; rfl
  exact ⟨e1, by unfold canR; rw [if_pos e1]; rfl⟩
end Go.Proofs.YtihpjcmloecaaaaGreat.Cw
/-
  Symmetry: the law on canonical plans.
-/
namespace Go.Proofs.YtihpjcmloecaaaaGreat.Cw
open Go Go.Cw Go.Proofs
set_option linter.unusedVariables false
set_option maxRecDepth 100000
set_option maxHeartbeats 8000000
end Go.Proofs.YtihpjcmloecaaaaGreat.Cw
/-
  Symmetry: the law on plans that arise from each other.
-/
namespace Go.Proofs.YtihpjcmloecaaaaGreat.Cw
open Go Go.Cw Go.Proofs
set_option linter.unusedVariables false
set_option maxRecDepth 100000
set_option maxHeartbeats 8000000
theorem EvM.laidX {m : Model} (h : EvM m) : LaidX m := ⟨h.laid, by have := h.few; omega, fun l hl => by have := (h.cls l hl).le; omega⟩
theorem call_even {t : List Int} {k : Nat} {H : Heap} {K : AV → Heap → Prop} (i a R : Nat) (hi : H[i]? = some (dice t k)) (ht : t.length ≤ 400) (hk : k ≤ t.length) (ha : a ≤ 5) (hR : R ≤ 3) (hR1 : 1 ≤ R)
    (hK : ∀ (m : Model) kc, kc ≤ t.length → EvM m → K (ag m.cells) (H.set i (dice t kc))) : vcFun Tryz.prog 25 [.ptr i 2 0 0, vint .i64 a, vint .i64 R] H K := by
  refine call_one (i := i) hi (fun _ _ => rfl) [.ptr 0 2 0 0, vint .i64 a, vint .i64 R] rfl (c_even t k ht hk a R ha hR hR1) ?_
  rintro r H' ⟨m, k', h1, h2, rfl, rfl⟩
  exact ⟨_, rfl, fun _ _ => rfl, fun _ _ => rfl, hK m k' h1 h2⟩
theorem PlX.full {m : Model} {l : List Int} (h : PlX m true l m.classes.length) (hc : ∀ c ∈ m.classes, 1 ≤ c.length) : isPlanP m l ∧ ∀ (i : Nat) (o : Int), l[i]? = some o → 0 ≤ o := by
  refine ⟨⟨h.len, fun j hj o c ho hcj => ?_⟩, fun i o ho => ?_⟩
  · obtain ⟨h1, h2, _, h4⟩ := h.at_ j (by rw [← h.len]; exact hj) o c ho hcj
    exact ⟨h1, h2 (hc c (List.mem_of_getElem? hcj))⟩
  · have hi : i < m.classes.length := by rw [← h.len]; exact (List.getElem?_eq_some_iff.1 ho).1
    obtain ⟨c, hci⟩ := getE hi
    exact (h.at_ i hi o c ho hci).2.2.2 rfl
structure SameQ (m : Model) (p q x : List Int) : Prop where
  pp : isPlanP m p
  pq : isPlanP m q
  px : isPlanP m x
  ep : canE m p = 0
  eq : canE m q = 0
  ex : canE m x = 0
  cp : canR m p = x
  cq : canR m q = x
  cx : canR m x = x
  cost : costV m x = costV m p
theorem same_of {m : Model} {p : List Int} (hok : modelE m = 0) (hp : isPlanP m p) : SameQ m p p (canL m p (setsV m)) := by
  have ok := setsV_ok hok
  have hR : ∀ x ∈ roomsV m, 0 ≤ x := fun x hx => (((rooms_spec m).1 x).1 hx).1
  have hr := canL_reach hp ok hR
  have hx := hr.plan hp
  obtain ⟨a1, a2⟩ := canR_eq hok hp
  obtain ⟨b1, b2⟩ := canR_eq hok hx
  exact ⟨hp, hp, hx, a1, a1, b1, a2, a2, by rw [b2, canL_of hok hp], hr.cost (model_good hok) hp⟩
theorem same_swap {m : Model} {p : List Int} {a b : Int} (h : exP m a b) (hp : isPlanP m p) : SameQ m p (imgP m a b p) (canL m p (setsV m)) := by
  obtain ⟨hok, hab, ha, hb, hs⟩ := h
  have h1 := same_of hok hp
  have hq : isPlanP m (imgP m a b p) := plan_iff.1 (imgP_planned hs.1 (plan_iff.2 hp))
  obtain ⟨c1, c2⟩ := canR_eq hok hq
  exact ⟨h1.pp, hq, h1.px, h1.ep, c1, h1.ex, h1.cp, by rw [c2, canL_swap hok hp hab ha hb hs], h1.cx, h1.cost⟩
theorem call_frzA {P : Program} {f : FuncId} {args as0 : List AV} {H : Heap} {K : AV → Heap → Prop} {Post : AV → Prop} (bs : List AV) (hc : mapO (conv H) args = some as0) (hok : andL (ok1 H) args) (hle : ALeL as0 bs) (hp : PCall P f bs Post) (hK : ∀ r, Post r → K r (app H (frz H (args.flatMap (ids1 H))))) : vcFun P f args H K := call_frz hc hok hle hp hK
theorem exV_all2 {m : Model} {a b : Int} (h : exP m a b) : exV m a b = imgsAll m a b := by unfold exV; rw [if_pos (pB_t h)]
theorem c_symsame (t : List Int) (a b : Int) : PCall Tryz.prog 8 [.pv (encInts t), vint .i64 a, vint .i64 b] (fun r => r = vbool true) := by
  have hA := awake_ok
  refine acall_of tok mixed 154 rfl (fn := Tryz.f8) (c := Tryz.f8.body.getD .skip) (by kernel_rfl) (by kernel_rfl) (by kernel_rfl) rfl 0 rfl ?_
  repeat' (first | ((change vcFun _ _ _ _ _; refine call_new [.pv (encInts t)] rfl (c_roll t) (fun _ _ => rfl) ?_)) | ((change vcFun _ _ _ _ _; refine call_even 0 5 3 rfl (by assumption) (Nat.zero_le _) (by omega) (by omega) (by omega) ?_; intro m kc hkc hme; obtain ⟨pl, kb, hkb, hpx, hpc⟩ := plan_ex t kc (by assumption) hkc m true hme.laidX)) | ((change vcFun _ _ _ _ _; refine call_one (i := 0) rfl (fun _ _ => rfl) [.ptr 0 2 0 0, ag m.cells, vbool true] rfl hpc ?_; rintro r H' ⟨rfl, rfl⟩; refine ⟨_, rfl, fun _ _ => rfl, fun _ _ => rfl, ?_⟩)) | (refine eqv_to (bits BinOp.and IntKind.i64 a 3) rfl ?_) | (refine eqv_to (bits BinOp.and IntKind.i64 b 3) rfl ?_) | ((change vcFun _ _ _ _ _; refine call_frz rfl (by repeat' (first | trivial | refine And.intro ?_ ?_ | (show 0 + _ ≤ List.length _; simp))) ALeL.refl (c_Swap m _ _ hme.laid) ?_; rintro _ rfl)) | (refine eqv_to (Rows.p (pl.map intRow)) rfl (eqv_to pl.length (by simp [rowsLen]) ?_)) | refine o1 ?_ | refine o2 ?_ | refine k1 ?_ | refine k2 ?_ | refine k3 ?_ | refine k4 ?_ | refine k6 ?_ | refine k7 ?_ | refine And.intro ?_ ?_ | (intro h; first | exact Bool.noConfusion h | exact nz _ h | exact nl h | (simp at h; done) | (simp at h; first | (exfalso; omega) | skip) | skip) | (change retOk _ _ _ _; refine ret_pure rfl trivial ?_) | (refine (?_ : srcLen _ = rowsLen _); rfl) | exact (by kernel_rfl : drawOk _ _ = true) | refine eqv_len_map ?_ | (change vcFun _ _ _ _ _; refine call_eq rfl (by repeat' (first | trivial | refine And.intro ?_ ?_ | (show 0 + _ ≤ List.length _; simp))) ALeL.refl (c_light t) rfl ?_) | (change vcFun _ _ _ _ _; refine call_eq rfl (by repeat' (first | trivial | refine And.intro ?_ ?_ | (show 0 + _ ≤ List.length _; simp))) ALeL.refl (hA) rfl ?_) | fail)
  · rfl
  · have h1 := hpx.len
    have h2 := hme.few
    simp only [rowsLen, List.length_map]
    show _ ≤ _
    omega
  · have h1 := hpx.len
    have h2 := hme.few
    simp only [rowsLen, List.length_map]
    show _ ≤ _
    omega
  all_goals
    generalize bits BinOp.and IntKind.i64 a 3 = a3 at *
    generalize bits BinOp.and IntKind.i64 b 3 = b3 at *
    have hok := hme.ok
    have hml := hme.laid
    obtain ⟨hpp, hp0⟩ := hpx.full fun c hc => (hme.cls c hc).one
    have hpl := hpx.len
    have hfew := hme.few
  · exfalso
    rename_i h1
    rw [exV_all2 h1] at h
    unfold imgsAll at h
    rw [List.length_map] at h
    exact h rfl
  · rename_i h1 hex
    clear h
    have hsq := same_swap hex hpp
    have hEV := exV_all2 hex
    have hsw := hex.2.2.2.2
    have hIL := imgP_len (m := m) (a := a3) (b := b3) (p := pl)
    have hIat := fun (i : Nat) (o : Int) (l : List Opt) => imgP_at (m := m) (a := a3) (b := b3) (p := pl) (i := i) (o := o) (l := l)
    have hCp := c_canon m pl hml
    have hCq := c_canon m (imgP m a3 b3 pl) hml
    have hCx := c_canon m (canL m pl (setsV m)) hml
    have hKp := c_costP m pl hok hml (plan_iff.2 hsq.pp)
    have hKx := c_costP m (canL m pl (setsV m)) hok hml (plan_iff.2 hsq.px)
    rw [hsq.cp, hsq.ep] at hCp
    rw [hsq.cq, hsq.eq] at hCq
    rw [hsq.cx, hsq.ex] at hCx
    rw [hsq.cost] at hKx
    have hxl : (canL m pl (setsV m)).length = pl.length := canL_len hpp
    have hSI := c_sameIntsR (canL m pl (setsV m)) (by omega)
    generalize canL m pl (setsV m) = x at *
    have hVi : ∀ i l, m.classes[i]? = some l → (exV m a3 b3)[i]? = some (imgsL l a3 b3 l.length) := fun i l hl => by rw [hEV]; exact all_at hl
    generalize exV m a3 b3 = EV at *
    generalize hQQ : imgP m a3 b3 pl = QQ at *
    refine loop_for (fun i : Nat => [(8, .ptr 1 4 0 0), (9, .pv (encInts pl)), (10, .pv (.sl 1 (EV.map natsRow))), (12, .ms 2 1 0 pl.length), (13, vint .i64 i)]) (fun i => [none, mdlO m, some ⟨3, 1, false, .p ((QQ.take i ++ pl.drop i).map intRow)⟩]) (fun i => i ≤ pl.length) (fun i => pl.length - i) 0 (Nat.zero_le _) ?_ ?_
    · exact back [0, 1, 2] rfl rfl (by repeat' (first | exact trivial | exact rfl | refine And.intro ?_ ?_)) (by repeat' (first | exact trivial | exact rfl | refine And.intro ?_ ?_))
    intro i hi
    dsimp only [mdlO]
    rcases Nat.lt_or_ge i pl.length with hlt | hge
    · obtain ⟨o, ho⟩ := getE hlt
      obtain ⟨l, hl⟩ := getE (l := m.classes) (i := i) (by omega)
      have hV := hVi i l hl
      have him := hsw.1 l (List.mem_of_getElem? hl)
      have hwl := imgs_whole him
      have ho0 := hp0 i o ho
      have hob := hpp.2 i hlt o l ho hl
      obtain ⟨n, rfl⟩ := Int.eq_ofNat_of_zero_le ho0
      have hn1 := imgs_at him (show n < l.length by omega)
      have hqa := hIat i n l ho hl
      rw [if_neg (by omega), Int.toNat_natCast] at hqa
      generalize imN l a3 b3 n = y at *
      have hstp : (QQ.take i ++ pl.drop i).set i (y : Int) = QQ.take (i + 1) ++ pl.drop (i + 1) := by
        rw [tk_snoc hqa, List.set_append, if_neg (by rw [List.length_take]; omega), List.length_take, Nat.min_eq_left (by omega), Nat.sub_self, drop_at ho, List.set_cons_zero, List.append_assoc]; rfl
      have hcell : (QQ.take i ++ pl.drop i)[i]? = some (n : Int) := by
        rw [List.getElem?_append_right (by rw [List.length_take]; omega), List.length_take, Nat.min_eq_left (by omega), Nat.sub_self, drop_at ho]; rfl
      have hlen : (QQ.take i ++ pl.drop i).length = pl.length := by rw [List.length_append, List.length_take, List.length_drop]; omega
      generalize QQ.take i ++ pl.drop i = QI at *
      repeat' (first | (refine idx_sl (k := i) (at_map hV) (by omega) ?_) | (refine idx_sl (k := i) (at_map hl) (by omega) ?_) | (refine idx_sl (k := i) (at_map ho) (by omega) ?_) | (refine idx_sl (k := n) (at_map hn1) (by omega) ?_) | (refine ⟨_, at_map hcell, (Nat.le_of_ble_eq_true rfl), ?_⟩) | refine o1 ?_ | refine o2 ?_ | refine k1 ?_ | refine k2 ?_ | refine k3 ?_ | refine k4 ?_ | refine k6 ?_ | refine And.intro ?_ ?_ | refine o3 ?_ | refine o4 ?_ | (intro h; first | exact Bool.noConfusion h | exact nz _ h | exact nl h | (simp at h; done) | (simp at h; first | (exfalso; omega) | skip) | skip) | exact (by kernel_rfl : drawOk _ _ = true) | refine eqv_len_map ?_ | refine eqv_zero ?_ | refine eqv_wrap (by omega) (by omega) ?_ | refine eqv_to _ (set_map rfl rfl) ?_ | refine idx_ms _ (by first | rfl | assumption) (by first | assumption | omega) ?_ | fail)
      all_goals first
        | (exfalso; simp at *; omega)
        | exact ⟨i + 1, by omega, by omega, (by rw [← hstp]; exact back [0, 1, 2] rfl rfl (by repeat' (first | exact trivial | exact rfl | refine And.intro ?_ ?_)) (by repeat' (first | exact trivial | exact rfl | refine And.intro ?_ ?_)))⟩
    · obtain rfl : i = pl.length := by omega
      rw [List.take_of_length_le (by omega), List.drop_length, List.append_nil]
      repeat' (first | ((change vcFun _ _ _ _ _; refine call_frz rfl (by repeat' (first | trivial | refine And.intro ?_ ?_ | (show 0 + _ ≤ List.length _; simp))) ALeL.refl hCp ?_; rintro _ rfl)) | ((change vcFun _ _ _ _ _; refine call_frz rfl (by repeat' (first | trivial | refine And.intro ?_ ?_ | (show 0 + _ ≤ List.length _; simp))) ALeL.refl hCx ?_; rintro _ rfl)) | ((change vcFun _ _ _ _ _; refine call_frz rfl (by repeat' (first | trivial | refine And.intro ?_ ?_ | (show 0 + _ ≤ List.length _; simp))) ALeL.refl hKp ?_; rintro _ rfl)) | ((change vcFun _ _ _ _ _; refine call_frz rfl (by repeat' (first | trivial | refine And.intro ?_ ?_ | (show 0 + _ ≤ List.length _; simp))) ALeL.refl hKx ?_; rintro _ rfl)) | ((change vcFun _ _ _ _ _; refine call_frzA [ag m.cells, .pv (.sl 1 (QQ.map intRow))] rfl (by repeat' (first | exact True.intro | refine And.intro ?_ ?_ | (show 0 + _ ≤ List.length _; rw [List.length_map]; omega))) ⟨ALe.refl, ALe.pv (whole_le (f := intRow) (l := QQ) (by omega)), trivial⟩ hCq ?_; rintro _ rfl)) | refine o1 ?_ | refine o2 ?_ | refine k1 ?_ | refine k2 ?_ | refine k3 ?_ | refine k7 ?_ | refine k8 ?_ | refine And.intro ?_ ?_ | (intro h; first | exact Bool.noConfusion h | exact nz _ h | exact nl h | (simp at h; done) | (simp at h; first | (exfalso; omega) | skip) | skip) | (change retOk _ _ _ _; refine ret_pure rfl trivial ?_) | (change vcFun _ _ _ _ _; refine call_eq rfl (by repeat' (first | trivial | refine And.intro ?_ ?_ | (show 0 + _ ≤ List.length _; simp))) ALeL.refl (hSI) rfl ?_) | (change vcFun _ _ _ _ _; refine call_eq rfl (by repeat' (first | trivial | refine And.intro ?_ ?_ | (show 0 + _ ≤ List.length _; simp))) ALeL.refl (hA) rfl ?_) | fail)
      all_goals rfl
  · have hsq := same_of hok hpp
    have hCp := c_canon m pl hml
    have hCq := c_canon m (pl) hml
    have hCx := c_canon m (canL m pl (setsV m)) hml
    have hKp := c_costP m pl hok hml (plan_iff.2 hsq.pp)
    have hKx := c_costP m (canL m pl (setsV m)) hok hml (plan_iff.2 hsq.px)
    rw [hsq.cp, hsq.ep] at hCp
    rw [hsq.cq, hsq.eq] at hCq
    rw [hsq.cx, hsq.ex] at hCx
    rw [hsq.cost] at hKx
    have hxl : (canL m pl (setsV m)).length = pl.length := canL_len hpp
    have hSI := c_sameIntsR (canL m pl (setsV m)) (by omega)
    generalize canL m pl (setsV m) = x at *
    have hQQ : pl = pl := rfl
    generalize hQQ : pl = QQ at hCq
    subst hQQ
    repeat' (first | ((change vcFun _ _ _ _ _; refine call_frz rfl (by repeat' (first | trivial | refine And.intro ?_ ?_ | (show 0 + _ ≤ List.length _; simp))) ALeL.refl hCp ?_; rintro _ rfl)) | ((change vcFun _ _ _ _ _; refine call_frz rfl (by repeat' (first | trivial | refine And.intro ?_ ?_ | (show 0 + _ ≤ List.length _; simp))) ALeL.refl hCx ?_; rintro _ rfl)) | ((change vcFun _ _ _ _ _; refine call_frz rfl (by repeat' (first | trivial | refine And.intro ?_ ?_ | (show 0 + _ ≤ List.length _; simp))) ALeL.refl hKp ?_; rintro _ rfl)) | ((change vcFun _ _ _ _ _; refine call_frz rfl (by repeat' (first | trivial | refine And.intro ?_ ?_ | (show 0 + _ ≤ List.length _; simp))) ALeL.refl hKx ?_; rintro _ rfl)) | ((change vcFun _ _ _ _ _; refine call_frzA [ag m.cells, .pv (.sl 1 (pl.map intRow))] rfl (by repeat' (first | exact True.intro | refine And.intro ?_ ?_ | (show 0 + _ ≤ List.length _; rw [List.length_map]; omega))) ⟨ALe.refl, ALe.pv (whole_le (f := intRow) (l := pl) (by omega)), trivial⟩ hCq ?_; rintro _ rfl)) | refine o1 ?_ | refine o2 ?_ | refine k1 ?_ | refine k2 ?_ | refine k7 ?_ | refine And.intro ?_ ?_ | (intro h; first | exact Bool.noConfusion h | exact nz _ h | exact nl h | (simp at h; done) | (simp at h; first | (exfalso; omega) | skip) | skip) | (change retOk _ _ _ _; refine ret_pure rfl trivial ?_) | (change vcFun _ _ _ _ _; refine call_eq rfl (by repeat' (first | trivial | refine And.intro ?_ ?_ | (show 0 + _ ≤ List.length _; simp))) ALeL.refl (hSI) rfl ?_) | (change vcFun _ _ _ _ _; refine call_eq rfl (by repeat' (first | trivial | refine And.intro ?_ ?_ | (show 0 + _ ≤ List.length _; simp))) ALeL.refl (hA) rfl ?_) | fail)
    all_goals rfl
  · exfalso
    rename_i h1
    rw [exV_all2 h1] at h
    unfold imgsAll at h
    rw [List.length_map] at h
    exact h rfl
  · rename_i h1 hex
    clear h
    have hsq := same_swap hex hpp
    obtain rfl : pl = [] := by
      simp only [rowsLen, List.length_map] at h1
      exact List.eq_nil_of_length_eq_zero h1
    have e0 : imgP m a3 b3 [] = [] := rfl
    rw [e0] at hsq
    have hCp := c_canon m [] hml
    have hCq := c_canon m ([]) hml
    have hCx := c_canon m (canL m [] (setsV m)) hml
    have hKp := c_costP m [] hok hml (plan_iff.2 hsq.pp)
    have hKx := c_costP m (canL m [] (setsV m)) hok hml (plan_iff.2 hsq.px)
    rw [hsq.cp, hsq.ep] at hCp
    rw [hsq.cq, hsq.eq] at hCq
    rw [hsq.cx, hsq.ex] at hCx
    rw [hsq.cost] at hKx
    have hxl : (canL m [] (setsV m)).length = ([] : List Int).length := canL_len hpp
    have hSI := c_sameIntsR (canL m [] (setsV m)) (by omega)
    generalize canL m [] (setsV m) = x at *
    refine loop_for (fun _ : Unit => [(8, .ptr 1 4 0 0), (9, .pv (encInts [])), (12, .pv (.val (.slice none 0 0))), (13, vint .i64 (0 : Nat))]) (fun i => [none, mdlO m]) (fun _ => True) (fun _ => 0) () trivial ?_ ?_
    · exact back [0, 1] rfl rfl (by repeat' (first | exact trivial | exact rfl | refine And.intro ?_ ?_)) (by repeat' (first | exact trivial | exact rfl | refine And.intro ?_ ?_))
    intro _ _
    dsimp only [mdlO]
    repeat' (first | ((change vcFun _ _ _ _ _; refine call_frz rfl (by repeat' (first | trivial | refine And.intro ?_ ?_ | (show 0 + _ ≤ List.length _; simp))) ALeL.refl hCp ?_; rintro _ rfl)) | ((change vcFun _ _ _ _ _; refine call_frz rfl (by repeat' (first | trivial | refine And.intro ?_ ?_ | (show 0 + _ ≤ List.length _; simp))) ALeL.refl hCx ?_; rintro _ rfl)) | ((change vcFun _ _ _ _ _; refine call_frz rfl (by repeat' (first | trivial | refine And.intro ?_ ?_ | (show 0 + _ ≤ List.length _; simp))) ALeL.refl hKp ?_; rintro _ rfl)) | ((change vcFun _ _ _ _ _; refine call_frz rfl (by repeat' (first | trivial | refine And.intro ?_ ?_ | (show 0 + _ ≤ List.length _; simp))) ALeL.refl hKx ?_; rintro _ rfl)) | ((change vcFun _ _ _ _ _; refine call_frzA [ag m.cells, .pv (.sl 1 (([] : List Int).map intRow))] rfl (by repeat' (first | trivial | refine And.intro ?_ ?_ | (show 0 + _ ≤ List.length _; simp))) ⟨ALe.refl, ALe.pv PLe.nil, trivial⟩ hCq ?_; rintro _ rfl)) | refine o1 ?_ | refine o2 ?_ | refine k1 ?_ | refine k2 ?_ | refine k3 ?_ | refine k7 ?_ | refine k8 ?_ | refine And.intro ?_ ?_ | (intro h; first | exact Bool.noConfusion h | exact nz _ h | exact nl h | (simp at h; done) | (simp at h; first | (exfalso; omega) | skip) | skip) | (change retOk _ _ _ _; refine ret_pure rfl trivial ?_) | (change vcFun _ _ _ _ _; refine call_eq rfl (by repeat' (first | trivial | refine And.intro ?_ ?_ | (show 0 + _ ≤ List.length _; simp))) ALeL.refl (hSI) rfl ?_) | (change vcFun _ _ _ _ _; refine call_eq rfl (by repeat' (first | trivial | refine And.intro ?_ ?_ | (show 0 + _ ≤ List.length _; simp))) ALeL.refl (hA) rfl ?_) | fail)
    all_goals rfl
  · rename_i h1
    have hsq := same_of hok hpp
    obtain rfl : pl = [] := by
      simp only [rowsLen, List.length_map] at h1
      exact List.eq_nil_of_length_eq_zero h1
    have hCp := c_canon m [] hml
    have hCq := c_canon m ([]) hml
    have hCx := c_canon m (canL m [] (setsV m)) hml
    have hKp := c_costP m [] hok hml (plan_iff.2 hsq.pp)
    have hKx := c_costP m (canL m [] (setsV m)) hok hml (plan_iff.2 hsq.px)
    rw [hsq.cp, hsq.ep] at hCp
    rw [hsq.cq, hsq.eq] at hCq
    rw [hsq.cx, hsq.ex] at hCx
    rw [hsq.cost] at hKx
    have hxl : (canL m [] (setsV m)).length = ([] : List Int).length := canL_len hpp
    have hSI := c_sameIntsR (canL m [] (setsV m)) (by omega)
    generalize canL m [] (setsV m) = x at *
    repeat' (first | ((change vcFun _ _ _ _ _; refine call_frz rfl (by repeat' (first | trivial | refine And.intro ?_ ?_ | (show 0 + _ ≤ List.length _; simp))) ALeL.refl hCp ?_; rintro _ rfl)) | ((change vcFun _ _ _ _ _; refine call_frz rfl (by repeat' (first | trivial | refine And.intro ?_ ?_ | (show 0 + _ ≤ List.length _; simp))) ALeL.refl hCx ?_; rintro _ rfl)) | ((change vcFun _ _ _ _ _; refine call_frz rfl (by repeat' (first | trivial | refine And.intro ?_ ?_ | (show 0 + _ ≤ List.length _; simp))) ALeL.refl hKp ?_; rintro _ rfl)) | ((change vcFun _ _ _ _ _; refine call_frz rfl (by repeat' (first | trivial | refine And.intro ?_ ?_ | (show 0 + _ ≤ List.length _; simp))) ALeL.refl hKx ?_; rintro _ rfl)) | ((change vcFun _ _ _ _ _; refine call_frzA [ag m.cells, .pv (.sl 1 (([] : List Int).map intRow))] rfl (by repeat' (first | trivial | refine And.intro ?_ ?_ | (show 0 + _ ≤ List.length _; simp))) ⟨ALe.refl, ALe.pv PLe.nil, trivial⟩ hCq ?_; rintro _ rfl)) | refine o1 ?_ | refine o2 ?_ | refine k1 ?_ | refine k2 ?_ | refine k7 ?_ | refine And.intro ?_ ?_ | (intro h; first | exact Bool.noConfusion h | exact nz _ h | exact nl h | (simp at h; done) | (simp at h; first | (exfalso; omega) | skip) | skip) | (change retOk _ _ _ _; refine ret_pure rfl trivial ?_) | (change vcFun _ _ _ _ _; refine call_eq rfl (by repeat' (first | trivial | refine And.intro ?_ ?_ | (show 0 + _ ≤ List.length _; simp))) ALeL.refl (hSI) rfl ?_) | (change vcFun _ _ _ _ _; refine call_eq rfl (by repeat' (first | trivial | refine And.intro ?_ ?_ | (show 0 + _ ≤ List.length _; simp))) ALeL.refl (hA) rfl ?_) | fail)
    all_goals rfl
end Go.Proofs.YtihpjcmloecaaaaGreat.Cw
/-
  The law SymmetrySame is true: for all arguments the call returns true and the arguments read as_ before. No conditions.
-/
namespace Go.Proofs.YtihpjcmloecaaaaGreat
open Go.ChangeShapes Go.WideShapes Go.ChangeAt Go.RowKit
open Go.Cw (ArgsOk vbool)
theorem symmetrysame_own : ownKnob Tryz.prog.godebug = none := by kernel_rfl
theorem symmetrysame_laid : laidOutB Tryz.prog = true := by kernel_rfl
theorem symmetrysame_call (al : List Go.Cw.AV) (h : ArgsOk Cw.T Tryz.f8.params.toList al) : Go.Cw.ACall Tryz.prog 8 al [] (fun r _ => r = vbool true) := by
  rw [Tryz.params8] at h
  have h : ArgsOk Cw.T [22, 3, 3] al := h
  obtain ⟨v0, a0, rfl, h0⟩ := Cw.args_ints h
  obtain ⟨v1, a1, rfl, lo1, hi1, h1⟩ := Cw.args_int h0
  obtain ⟨v2, a2, rfl, lo2, hi2, h2⟩ := Cw.args_int h1
  obtain rfl := Go.Cw.args_end h2
  exact Go.Cw.ACall.mono (Cw.c_symsame v0 v1 v2) fun r H1 e => e.2
set_option maxRecDepth 100000 in
theorem symmetrysame_lifted (os : Os) (started : os.Started) (H : Type) (enc : TypeId × Value → H) :
    ReturnsInHanded {} Tryz.checked os 8 .any (Rows.symmetrySameSpec.pre6 enc Tryz.prog Tryz.f8 Rows.symmetrySameRow.domain false) (Rows.symmetrySameSpec.post enc Tryz.prog Tryz.f8 false true false false) := by
  refine returnsInHanded_of_change (C := Tryz.checked) symmetrysame_own started (by kernel_rfl) Tryz.func8
    (ChangeSpec.witness6 (enc := enc) (C := Tryz.checked) false ⟨#[], #[.slice none 0 0, .int .i64 0, .int .i64 0], []⟩ 8 (by kernel_rfl) (by kernel_rfl) (by kernel_rfl) (by kernel_rfl)) ?_
  intro W base args ds gs before hval0 hW hcnd _
  exact Go.Cw.law_step (T := Cw.T) Cw.tok symmetrysame_laid 12 rfl (by kernel_rfl) (by kernel_rfl) Tryz.underlying4
    (fun ds hd => by match ds, hd with | [d0, d1, d2], _ => exact ⟨rfl, rfl, rfl⟩)
    symmetrysame_call hval0 hW (fun e he => by cases he)
theorem symmetrysame_holds : Rows.SymmetrySameSaid :=
  OpenClaim.holds_of_wide 8 Tryz.f8 rfl rfl rfl rfl rfl rfl rfl ⟨rfl, rfl, rfl, rfl, rfl⟩ rfl rfl rfl rfl rfl (by kernel_rfl) Tryz.func8 (by kernel_rfl)
    (of_decide_eq_true (by kernel_rfl)) (by unfold Func.isWrapper; first | (rw [if_pos (by decide +kernel)]; kernel_rfl) | (rw [if_neg (by decide +kernel)]; exact ⟨rfl, rfl⟩))
    (fun os started H enc _ => symmetrysame_lifted os started H enc)
end Go.Proofs.YtihpjcmloecaaaaGreat
